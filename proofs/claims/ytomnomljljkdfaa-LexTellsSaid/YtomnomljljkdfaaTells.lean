/- LexTells: bytes are the tokens that the document says, and what was handed in stays, proved for any bytes. Conditions: none. -/
import Derived.Test.YtomnomljljkdfaaRefL
import Derived.Test.YtomnomljljkdfaaBytes
import Derived.Deep.RegionHeld3
import Derived.Test.YtomnomljljkdfaaRows
import Derived.ProofKit
import Derived.OpenShut
import Derived.ShutString
import Derived.ChangeOld
import Derived.Deep.Grids
namespace Go.Proofs.Ytomnomljljkdfaa
open Go.RowKit
set_option linter.unusedVariables false
attribute [local go_sem] maxI minI

set_option maxRecDepth 100000 in
set_option maxHeartbeats 8000000 in
theorem tells_walk (a0 : Option Addr) (len0 cap0 : Nat) (z : Nat → Int) (w : World) (hz : Row w a0 len0 (fun i => .int .u8 (z i))) (hcap : len0 ≤ cap0) (hm0 : cap0 ≤ 9223372036854775807) (hbz : ∀ j, j < len0 → 0 ≤ z j ∧ z j ≤ 255) :
    Calls Try.prog 3 #[.slice a0 len0 cap0] w fun e w' => e = .returned (.bool true) ∧ Below w.heap.size w w' := by
  have HZ := hid hz
  have HB := hid hbz
  clear hz hbz
  obtain ⟨n, hn⟩ : ∃ n : Nat, min (len0 : Int) 2000 = n := ⟨min len0 2000, by omega⟩
  have hn2 : n ≤ 2000 := by omega
  have hnl : n ≤ len0 := by omega
  have HN := hid hn
  have hu32 := Try.underlying32
  have hu33 := Try.underlying33
  obtain ⟨i5, hi5, hz50, hz51, hz52⟩ := info_parts info5
  go_enter Try.func3, Try.ntmps3
  go_wp2_with fail
  refine (shown_any _).mono ?_
  rintro e w1 ⟨rfl, hB⟩
  have hrow1 : Row w1 a0 n (fun j => .int .u8 (z j)) := (HZ.out.le hnl).kept hB
  have hsrc := hid (bytesV_cells (hrow1.kept ((Below.refl _ _).alloc (Nat.le_refl _) (Obj.cells #[] 5))))
  have hnil := hid (fun e => hrow1.nil_len e)
  have h63 : 0 + n ≤ maxLen := by unfold maxLen; omega
  clear hrow1
  go_wp2_with (at_builtin
               refine wpList_onto rfl (.tmp 13) (.tmp 18) 22 rfl w1.heap.size 5 i5 (.int .u8 0) 1 1 Try.underlying22 hi5 hz50 hz51 hz52 rfl (by omega) (.slice (some ⟨w1.heap.size, 0, none⟩) 0 0) 0 [] rfl (own_empty w1 5 1) a0 n cap0 (bytesV z n) rfl (by simp [bytesV_len]) hsrc.out hnil.out (bytesV_one z n) h63 (by omega) (by simp) ?_
               intro v3 w3 hown3 hg3 hform3 hat3
               have hb3 := (hB.alloc hB.size (Obj.cells #[] 5)).grown hg3 (Nat.le_trans hB.size (by simp)) (fun k hk => by simp [Value.ownBlock] at hk; have := hB.size; omega)
               rw [Nat.zero_add, List.nil_append] at hown3
               obtain ⟨g3, c3, cs3, rfl, hg30, hB3, hsz3, hc3, hcs3⟩ := own_form hown3 (form_ne hform3 (by simp))
               have hrow3 : Row w3 (some ⟨g3, 0, none⟩) n (fun j => .int .u8 (z j)) := Row.of_blk hB3 fun i hi => by rw [hcs3 i (by omega)]; exact bytesV_get z n i hi
               have hcv := conv_any (some ⟨g3, 0, none⟩) n c3 z w3 hrow3 (fun j hj => HB.out j (by omega))
               have HR3 := hid hrow3
               clear hown3 hg3 hform3 hat3 hB3 hcs3 hsz3 hrow3)
  clear hcv hsrc hnil h63
  refine (lex_toks (some ⟨g3, 0, none⟩) n c3 z w3 HR3.out (fun j hj => HB.out j (by omega)) (by omega)).mono ?_
  rintro e w4 ⟨⟨l, g, c, hl, rfl, hg, hc, hT⟩ | ⟨l, p, hl, rfl⟩, hB4⟩
  · have hll := hl.len
    have HL := hid hl
    clear hl
    go_wp2_with fail
    refine (ref_lex n z w4 (by omega) (fun j hj => HB.out j (by omega))).mono ?_
    rintro e w5 ⟨⟨l', g', c', hl', rfl, hg', hc', hT'⟩ | ⟨l', p, hl', rfl⟩, hB5⟩
    · obtain rfl : l = l' := (HL.out.unique hl').1
      have hT5 := hT.below hB5 hT.lt
      have hb4 : Below w.heap.size w w4 := hb3.trans (hB4.mono hb3.size)
      have hb5 : Below w.heap.size w w5 := hb4.trans (hB5.mono hb4.size)
      have HR5 := hid ((HR3.out.kept hB4).kept hB5)
      clear hl' hT hB4 hB5 hb3 hb4
      go_wp2_with fail
      go_loopw [11] (fun v wr => ∃ (j mm : Nat), j ≤ l.length + 1 ∧ v = .int .i64 j ∧ wr = w5.drewN mm)
        (fun v _ => l.length + 1 - (intOf v).toNat)
      case atStart => exact ⟨0, 0, by omega, rfl, rfl⟩
      case round =>
        obtain ⟨j, mm, hj, rfl, rfl⟩ := hrel
        by_cases hji : j < l.length + 1
        · obtain ⟨t, ht⟩ : ∃ t, (l ++ [⟨4, n, 0⟩])[j]? = some t := ⟨_, List.getElem?_eq_getElem (by simp; omega)⟩
          obtain ⟨y0, y1, y2⟩ := (hT5.drewN mm).at_ ht
          obtain ⟨y3, y4, y5⟩ := hT'.at_ ht
          have y3 : (w5.drewN mm).cell? ⟨g', j * 3, none⟩ = some (.int .i64 t.kind) := y3
          have y4 : (w5.drewN mm).cell? ⟨g', j * 3 + 1, none⟩ = some (.string (sub z t.at_ t.size)) := y4
          have y5 : (w5.drewN mm).cell? ⟨g', j * 3 + 2, none⟩ = some (.int .i64 t.at_) := y5
          clear ht
          generalize t.kind = K at *
          generalize sub z t.at_ t.size = S at *
          generalize t.at_ = P at *
          obtain ⟨w12, hw12⟩ : ∃ w12, w5.drewN mm = w12 := ⟨_, rfl⟩
          rw [hw12] at y0 y1 y2 y3 y4 y5 ⊢
          have HW := hid hw12
          clear hw12
          have hj2 : (j : Int) < (l.length : Int) + 1 := by omega
          go_wp2_with fail
          go_quiet (fail)
          go_wp2_with fail
          go_roundw
          case rel => exact ⟨j + 1, mm + nq, by omega, by go_num, by rw [← HW.out, World.drewN_drewN]⟩
          case measure => simp [intOf]; omega
        · have hcv := conv_any (some ⟨g3, 0, none⟩) n c3 z (w5.drewN mm) (by exact (HR5.out : Row w5 _ _ _)) (fun j hj => HB.out j (by omega))
          go_wp2_with fail
          go_ret
          exact ⟨rfl, ⟨hb5.os, hb5.tape, hb5.output, hb5.size, hb5.block⟩⟩
    · exact absurd (HL.out.unique hl').2 (by simp)
  · have HL := hid hl
    clear hl
    go_wp2_with fail
    refine (ref_lex n z w4 (by omega) (fun j hj => HB.out j (by omega))).mono ?_
    rintro e w5 ⟨⟨l', g', c', hl', rfl, hg', hc', hT'⟩ | ⟨l', p', hl', rfl⟩, hB5⟩
    · exact absurd (HL.out.unique hl').2 (by simp)
    · obtain rfl : p = p' := by have := (HL.out.unique hl').2; simpa using this
      have hb4 : Below w.heap.size w w4 := hb3.trans (hB4.mono hb3.size)
      have hb5 : Below w.heap.size w w5 := hb4.trans (hB5.mono hb4.size)
      have HR5 := hid ((HR3.out.kept hB4).kept hB5)
      clear hl' hB4 hB5 hb3 hb4
      go_wp2_with fail
      go_loopw [11] (fun v wr => ∃ (j mm : Nat), j ≤ 0 ∧ v = .int .i64 j ∧ wr = w5.drewN mm)
        (fun v _ => 0 - (intOf v).toNat)
      case atStart => exact ⟨0, 0, by omega, rfl, rfl⟩
      case round =>
        obtain ⟨j, mm, hj, rfl, rfl⟩ := hrel
        obtain rfl : j = 0 := by omega
        have hcv := conv_any (some ⟨g3, 0, none⟩) n c3 z (w5.drewN mm) (by exact (HR5.out : Row w5 _ _ _)) (fun j hj => HB.out j (by omega))
        go_wp2_with fail
        go_ret
        exact ⟨rfl, ⟨hb5.os, hb5.tape, hb5.output, hb5.size, hb5.block⟩⟩
end Go.Proofs.Ytomnomljljkdfaa

namespace Go.Proofs.Ytomnomljljkdfaa.lexTells
open Go.ChangeShapes Go.WideShapes Go.ChangeAt Go.RowKit
open Go.ChangeMaps (open_string shut_string)
set_option linter.unusedVariables false

theorem own : ownKnob Try.prog.godebug = none := by kernel_rfl
theorem laidOut : laidOutB Try.prog = true := by kernel_rfl

theorem walk (a0 : Option Addr) (len0 cap0 : Nat) (z0 : Nat → Int) (w : World) (w0 : Row w a0 len0 (fun i => .int .u8 (z0 i)) ∧ len0 ≤ cap0 ∧ cap0 ≤ maxLen ∧ ∀ j, j < len0 → (Lit.int .u8 (z0 j)).wf = true) :
    Calls Try.prog 3 #[.slice a0 len0 cap0] w fun e w' => e = .returned (.bool true) ∧ Below w.heap.size w w' := by
  exact tells_walk a0 len0 cap0 z0 w w0.1 w0.2.1 (by have := w0.2.2.1; unfold maxLen at this; omega) (fun j hj => u8_wf (w0.2.2.2 j hj))

set_option maxRecDepth 100000 in
theorem lifted (os : Os) (started : os.Started) (H : Type) (enc : TypeId × Value → H) :
    ReturnsInHanded {} Try.checked os 3 .any (Rows.lexTellsSpec.pre6 enc Try.prog Try.f3 Rows.lexTellsRow.domain false) (Rows.lexTellsSpec.post enc Try.prog Try.f3 false true false false) := by
  refine returnsInHanded_of_change (C := Try.checked) own started (by kernel_rfl) Try.func3
    (ChangeSpec.witness6 (enc := enc) (C := Try.checked) false ⟨#[], #[.slice none 0 0], []⟩ 8 (by kernel_rfl) (by kernel_rfl) (by kernel_rfl) (by kernel_rfl)) ?_
  intro W base args ds gs before hval0 hW hcnd _
  have hval : ∀ (j : Nat) t v, Try.f3.params[j]? = some t → args[j]? = some v → Value.okWide Try.prog W .any base t v := hval0
  have hW' := hW
  obtain ⟨p, q, hA0, hV, rfl, hfz, hnd⟩ := hW
  have hA : DataW.TrodAll enc Try.prog W 0 (fun _ => true) true Try.f3.params.toList args.toList ds p := hA0
  rw [Try.params3] at hA hval
  obtain ⟨v0, vs0, d0, ds0, p0, q0, hargs, rfl, rfl, h0, r0⟩ := trodAll_cons hA
  obtain ⟨rfl, rfl, rfl⟩ := trodAll_nil r0
  obtain rfl : args = #[v0] := by cases args; simp_all
  obtain ⟨rfl, rfl⟩ := trodVars_none hV
  obtain ⟨a0, len0, cap0, rfl⟩ := okWide_slice Try.underlying22 (hval 0 22 v0 rfl rfl)
  have k0 := h0
  have lt0 : ∀ x ∈ p0, x.block < W.heap.size := by obtain ⟨m, hm⟩ := k0; exact DataW.trod_lt m _ _ _ hm
  obtain ⟨z0, w0⟩ : ∃ z0 : Nat → Int, Row W a0 len0 (fun i => .int .u8 (z0 i)) ∧ len0 ≤ cap0 ∧ cap0 ≤ maxLen ∧ ∀ j, j < len0 → (Lit.int .u8 (z0 j)).wf = true := by
    obtain ⟨fuel, hf⟩ := h0
    rcases open_ints Try.underlying22 Try.underlying5 (by kernel_rfl) hf with ⟨hcs, _⟩ | ⟨x, l, c, zs, hcs, _, hl, hm, hz, _, hcell, hwz⟩
    · simp [Value.cells] at hcs
      obtain ⟨rfl, rfl, rfl⟩ := hcs
      exact ⟨fun _ => 0, Row.nil, Nat.le_refl _, Nat.zero_le _, fun j hj => absurd hj (Nat.not_lt_zero j)⟩
    · simp [Value.cells] at hcs
      obtain ⟨rfl, rfl, rfl⟩ := hcs
      exact ⟨fun j => zs.getD j 0, Row.of_add hl (fun j hj => hcell j (by simp at hz; omega)), hl, hm, fun j hj => getD_all hwz (by simp at hz; omega)⟩
  clear hA0 hval0
  refine (walk a0 len0 cap0 z0 W w0).mono fun e W' ⟨he, bel⟩ => ?_
  subst he
  exact ⟨_, rfl, _, _, _, [], _, [], hW', trodAll_mk1 (shut_bool Try.underlying4 _), (trodAll_cons_mk (Below.trod laidOut (by kernel_rfl) (of_decide_eq_true (by kernel_rfl)) k0 bel lt0) trodAll_mk0), rfl, bel.frame _, fun h => by cases h⟩

theorem over : Rows.lexTellsRow.holds Try.pinned (OpenSpec.ofChange Rows.lexTellsSpec) :=
  OpenClaim.holds_of_wide 3 Try.f3 rfl rfl rfl rfl rfl rfl rfl ⟨rfl, rfl, rfl, rfl, rfl⟩ rfl rfl rfl rfl rfl (by kernel_rfl) Try.func3 (by kernel_rfl)
    (of_decide_eq_true (by kernel_rfl)) (by unfold Func.isWrapper; first | (rw [if_pos (by decide +kernel)]; kernel_rfl) | (rw [if_neg (by decide +kernel)]; exact ⟨rfl, rfl⟩))
    (fun os started H enc _ => lifted os started H enc)

theorem proved : Rows.LexTellsSaid := over
#print axioms proved
end Go.Proofs.Ytomnomljljkdfaa.lexTells

