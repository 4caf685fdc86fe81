/- LexComments: from a # on a line says nothing, proved for any bytes. Conditions: none. -/
import Derived.Test.YtomnomljljkdfaaBytes
import Derived.Deep.RegionHeld3
import Derived.Test.YtomnomljljkdfaaRows
import Derived.ProofKit
import Derived.OpenShut
import Derived.ShutString
import Derived.ChangeOld
import Derived.Deep.Grids
namespace Go.Proofs.Ytomnomljljkdfaa
open Go.RowKit
set_option linter.unusedVariables false
attribute [local go_sem] maxI minI

set_option maxRecDepth 100000 in
set_option maxHeartbeats 8000000 in
theorem comments_walk (a0 : Option Addr) (len0 cap0 : Nat) (z : Nat → Int) (a1 : Option Addr) (len cap1 : Nat) (y : Nat → Int) (w : World) (hz : Row w a0 len0 (fun i => .int .u8 (z i))) (hcap : len0 ≤ cap0) (hm0 : cap0 ≤ 9223372036854775807) (hbz : ∀ j, j < len0 → 0 ≤ z j ∧ z j ≤ 255)
    (hy : Row w a1 len (fun i => .int .u8 (y i))) (hby : ∀ j, j < len → 0 ≤ y j ∧ y j ≤ 255) :
    Calls Try.prog 7 #[.slice a0 len0 cap0, .slice a1 len cap1] w fun e w' => e = .returned (.bool true) ∧ Below w.heap.size w w' := by
  have HZ := hid hz
  have HB := hid hbz
  have HY := hid hy
  have HBY := hid hby
  clear hz hbz hy hby
  obtain ⟨n, hn⟩ : ∃ n : Nat, min (len0 : Int) 1000 = n := ⟨min len0 1000, by omega⟩
  have hn2 : n ≤ 1000 := by omega
  have hnl : n ≤ len0 := by omega
  have HN := hid hn
  have hu32 := Try.underlying32
  obtain ⟨i5, hi5, hz50, hz51, hz52⟩ := info_parts info5
  go_enter Try.func7, Try.ntmps7
  go_wp2_with fail
  refine (shown_any _).mono ?_
  rintro e w1 ⟨rfl, hB⟩
  go_wp2_with fail
  refine (lex_toks a0 n cap0 z w1 ((HZ.out.le hnl).kept hB) (fun j hj => HB.out j (by omega)) (by omega)).mono ?_
  rintro e w2 ⟨⟨l, g, c, hl, rfl, hg, hc, hT⟩ | ⟨l, p, hl, rfl⟩, hB2⟩
  · have hll := hl.len
    have HL := hid hl
    clear hl
    have hb2 : Below w.heap.size w w2 := hB.trans (hB2.mono hB.size)
    have hrow2 : Row w2 a0 n (fun j => .int .u8 (z j)) := (HZ.out.le hnl).kept hb2
    have hsrc := hid (bytesV_cells (hrow2.kept ((Below.refl _ _).alloc (Nat.le_refl _) (Obj.cells #[] 5))))
    have hnil := hid (fun e => hrow2.nil_len e)
    have h63 : 0 + n ≤ maxLen := by unfold maxLen; omega
    have h64 : 0 + n + 1 ≤ maxLen := by unfold maxLen; omega
    clear hrow2
    go_wp2_with (at_builtin
                 first
                 | (refine wpList_onto rfl (.tmp 30) (.tmp 31) 22 rfl w2.heap.size 5 i5 (.int .u8 0) 1 1 Try.underlying22 hi5 hz50 hz51 hz52 rfl (by omega) (.slice (some ⟨w2.heap.size, 0, none⟩) 0 0) 0 [] rfl (own_empty w2 5 1) a0 n cap0 (bytesV z n) rfl (by simp [bytesV_len]) hsrc.out hnil.out (bytesV_one z n) h63 (by omega) (by simp) ?_
                    intro v3 w3 hown3 hg3 hform3 hat3
                    have hs3 : w2.heap.size ≤ w3.heap.size := by have := hg3.size; simp at this; omega
                    have hsrc3 := hid (bytesV_cells (Row.of_blk (m := 1) (f := fun j => .int .u8 ((fun _ => 35) j)) (Blk.new w3 5 #[Value.int IntKind.u8 35]) (fun i hi => by obtain rfl : i = 0 := (by omega); rfl))))
                 | (refine wpList_onto rfl (.tmp 32) (.tmp 33) 22 rfl w2.heap.size 5 i5 (.int .u8 0) 1 1 Try.underlying22 hi5 hz50 hz51 hz52 rfl (by omega) v3 (0 + n) ([] ++ bytesV z n) rfl (hown3.alloc _) (some ⟨w3.heap.size, 0, none⟩) 1 1 (bytesV (fun _ => 35) 1) rfl rfl hsrc3.out (fun e => by cases e) (bytesV_one _ _) h64 (by omega) (Nat.le_trans hs3 (by simp)) ?_
                    intro v4 w4 hown4 hg4 hform4 hat4))
    have hs4 : w2.heap.size ≤ w4.heap.size := by have := hg4.size; simp at this; omega
    have hb4 : Below w2.heap.size w2 w4 := (((((Below.refl w2.heap.size w2).alloc (Nat.le_refl _) (Obj.cells #[] 5)).grown hg3 (by simp) (fun k hk => by simp [Value.ownBlock] at hk; omega)).alloc hs3 (Obj.cells #[Value.int IntKind.u8 35] 5))).grown hg4 (by simp; omega) (fun k hk => (hown3.lt k hk).1)
    rw [List.nil_append, Nat.zero_add, show bytesV z n ++ bytesV (fun x => 35) 1 = bytesV (more z n 35) (n + 1) from bytesV_snoc z n 35] at hown4
    have hnt := hid (Noted.start (fun j hj => HB.out j (by omega)) : Noted n z (n + 1) (more z n 35))
    clear hform3 hform4 hat3 hat4 hg3 hg4 hown3 hsrc hsrc3 hnil h63 h64 hs3
    go_loopw [9, 10] (fun v i wr => ∃ (k N : Nat) (Y : Nat → Int), k ≤ len ∧ k ≤ 100 ∧ N ≤ n + 1 + k ∧ i = .int .i64 k ∧ wr.ownsRow w2.heap.size 5 1 v N (bytesV Y N) ∧ Hid (Noted n z N Y) ∧ Below w2.heap.size w2 wr)
      (fun _ i _ => 100 - (intOf i).toNat)
    case atStart => exact ⟨0, n + 1, _, by omega, by omega, by omega, rfl, hown4, hnt, hb4⟩
    case round =>
      obtain ⟨k, N, Y, hk, hk1, hN, rfl, hown, hnd, hb⟩ := hrel
      by_cases hlt : k < len ∧ k < 100
      · obtain ⟨hlt, hlt1⟩ := hlt
        obtain ⟨hy0, hy1⟩ := HBY.out k hlt
        obtain ⟨yb, yo, rfl, hc0⟩ := HY.out k hlt
        have hwb : Below w.heap.size w wr := hb2.trans (hb.mono hb2.size)
        have hc1 : wr.cell? ⟨yb, yo + k, none⟩ = some (.int .u8 (y k)) := (hwb.cell (p := ⟨yb, yo + k, none⟩) (World.block_lt_of_cell? _ _ hc0)).trans hc0
        clear hc0
        by_cases h10 : y k = 10
        · go_wp2_with fail
          go_roundw
          case rel => exact ⟨k + 1, N, Y, by omega, by omega, by omega, by go_num, hown, hnd, hb⟩
          case measure => simp [intOf]; omega
        · have h10b : (y k == 10) = false := by simp [h10]
          have hown1 := hown.alloc (Obj.cells #[Value.int IntKind.u8 (y k)] 5)
          have hb1 := hb.alloc hb.size (Obj.cells #[Value.int IntKind.u8 (y k)] 5)
          have hsr : Hid _ := hid (bytesV_cells (Row.of_blk (m := 1) (f := fun j => .int .u8 ((fun _ => y k) j)) (Blk.new wr 5 #[Value.int IntKind.u8 (y k)]) (fun i hi => by obtain rfl : i = 0 := (by omega); rfl)))
          have h63 : N + 1 ≤ maxLen := by unfold maxLen; omega
          go_wp2_with (at_builtin
                       refine wpList_onto rfl (.tmp 50) (.tmp 55) 22 rfl w2.heap.size 5 i5 (.int .u8 0) 1 1 Try.underlying22 hi5 hz50 hz51 hz52 rfl (by omega) u9 N (bytesV Y N) rfl hown1 (some ⟨wr.heap.size, 0, none⟩) 1 1 (bytesV (fun _ => y k) 1) rfl rfl hsr.out (fun e => by cases e) (bytesV_one _ _) h63 (by omega) hb1.size ?_
                       intro v6 w6 hown6 hg6 hform6 hat6)
          go_roundw
          case rel => exact ⟨k + 1, N + 1, more Y N (y k), by omega, by omega, by omega, by go_num, (by rw [← bytesV_snoc]; exact hown6), hid (hnd.out.snoc ⟨hy0, hy1⟩ h10), hb1.grown hg6 hb1.size (fun g hg => (hown1.lt g hg).1)⟩
          case measure => simp [intOf]; omega
      · obtain ⟨g3, c3, rfl, hc3, hg3, hgl3, hrow3⟩ := own_bytes hown (by have := hnd.out.lt; omega)
        have hcm := hid (HL.out.comment hnd.out.lt hnd.out.same hnd.out.mark hnd.out.no10)
        have hNn := hnd.out.lt
        have HR := hid hrow3
        have hbw := hb2.size
        clear hrow3 hown
        rcases Nat.lt_or_ge k len with hk2 | hk2
        all_goals
          have hk3 : (k < len ∧ ¬ k < 100) ∨ ¬ k < len := by omega
          go_wp2_with fail
          refine (lex_toks (some ⟨g3, 0, none⟩) N c3 Y wr HR.out (fun j hj => hnd.out.u8 j hj) (by omega)).mono ?_
          rintro e w5 ⟨⟨l', g', c', hl', rfl, hg', hc', hT'⟩ | ⟨l', p, hl', rfl⟩, hB5⟩
          · obtain rfl : l = l' := (hcm.out.unique hl').1
            have hb5 : Below w2.heap.size w2 w5 := hb.trans (hB5.mono hb.size)
            have hT5 := hT.below hb5 hT.lt
            have hbw5 : Below w.heap.size w w5 := hb2.trans (hb5.mono hbw)
            obtain ⟨x0, x1, x2⟩ := hT'.at_ (show (l ++ [⟨4, N, 0⟩])[l.length]? = some ⟨4, N, 0⟩ by simp)
            dsimp only at x2
            clear hl' hb5 hB5 hb hT x0 x1
            go_wp2_with fail
            first
              | (have d100 : decide ((k : Int) < 100) = false := by (simp; omega)
                 simp only [d100]
                 clear d100)
              | skip
            have HTT : ∀ j, j < l.length → ∃ K S P, ∀ mm, ((w5.drewN mm).cell? ⟨g, j * 3, none⟩ = some (.int .i64 K) ∧ (w5.drewN mm).cell? ⟨g, j * 3 + 1, none⟩ = some (.string S) ∧ (w5.drewN mm).cell? ⟨g, j * 3 + 2, none⟩ = some (.int .i64 P)) ∧ ((w5.drewN mm).cell? ⟨g', j * 3, none⟩ = some (.int .i64 K) ∧ (w5.drewN mm).cell? ⟨g', j * 3 + 1, none⟩ = some (.string S) ∧ (w5.drewN mm).cell? ⟨g', j * 3 + 2, none⟩ = some (.int .i64 P)) := by
              intro j hj
              have hu : l[j]? = some l[j] := List.getElem?_eq_getElem hj
              have he := HL.out.ends l[j] (List.getElem_mem hj)
              have e : sub Y l[j].at_ l[j].size = sub z l[j].at_ l[j].size := sub_congr fun i h1 h2 => hnd.out.same i (by omega)
              refine ⟨_, _, _, fun mm => ⟨(hT5.drewN mm).at_ (by rw [List.getElem?_append_left hj]; exact hu), ?_⟩⟩
              rw [← e]
              exact (hT'.drewN mm).at_ (by rw [List.getElem?_append_left hj]; exact hu)
            have HT := hid HTT
            have X2 := hid x2
            clear HTT x2
            go_loopw [14] (fun v wr => ∃ (j mm : Nat), j ≤ l.length ∧ v = .int .i64 j ∧ wr = w5.drewN mm)
              (fun v _ => l.length - (intOf v).toNat)
            case atStart => exact ⟨0, 0, by omega, rfl, rfl⟩
            case round =>
              obtain ⟨j, mm, hj, rfl, rfl⟩ := hrel
              by_cases hji : j < l.length
              · obtain ⟨K, S, P, hcells⟩ := HT.out j hji
                obtain ⟨⟨y0, y1, y2⟩, y3, y4, y5⟩ := hcells mm
                clear hcells
                obtain ⟨w12, hw12⟩ : ∃ w12, w5.drewN mm = w12 := ⟨_, rfl⟩
                rw [hw12] at y0 y1 y2 y3 y4 y5 ⊢
                have hj2 : (j : Int) < (l.length : Int) + 1 := by omega
                go_wp2_with fail
                go_quiet (fail)
                go_wp2_with fail
                go_roundw
                case rel => exact ⟨j + 1, mm + nq, by omega, by go_num, by rw [← hw12, World.drewN_drewN]⟩
                case measure => simp [intOf]; omega
              · obtain rfl : j = l.length := by omega
                have x2 : (w5.drewN mm).cell? ⟨g', l.length * 3 + 2, none⟩ = some (.int .i64 N) := X2.out
                go_wp2_with fail
                go_ret
                exact ⟨rfl, ⟨hbw5.os, hbw5.tape, hbw5.output, hbw5.size, hbw5.block⟩⟩
          · exact absurd (hcm.out.unique hl').2 (by simp)
  · go_wp2_with fail
    go_ret
    exact ⟨rfl, hB.trans (hB2.mono hB.size)⟩
end Go.Proofs.Ytomnomljljkdfaa

namespace Go.Proofs.Ytomnomljljkdfaa.lexComments
open Go.ChangeShapes Go.WideShapes Go.ChangeAt Go.RowKit
open Go.ChangeMaps (open_string shut_string)
set_option linter.unusedVariables false

theorem own : ownKnob Try.prog.godebug = none := by kernel_rfl
theorem laidOut : laidOutB Try.prog = true := by kernel_rfl

theorem walk (a0 : Option Addr) (len0 cap0 : Nat) (z0 : Nat → Int) (a1 : Option Addr) (len1 cap1 : Nat) (z1 : Nat → Int) (w : World) (w0 : Row w a0 len0 (fun i => .int .u8 (z0 i)) ∧ len0 ≤ cap0 ∧ cap0 ≤ maxLen ∧ ∀ j, j < len0 → (Lit.int .u8 (z0 j)).wf = true) (w1 : Row w a1 len1 (fun i => .int .u8 (z1 i)) ∧ len1 ≤ cap1 ∧ cap1 ≤ maxLen ∧ ∀ j, j < len1 → (Lit.int .u8 (z1 j)).wf = true) :
    Calls Try.prog 7 #[.slice a0 len0 cap0, .slice a1 len1 cap1] w fun e w' => e = .returned (.bool true) ∧ Below w.heap.size w w' := by
  exact comments_walk a0 len0 cap0 z0 a1 len1 cap1 z1 w w0.1 w0.2.1 (by have := w0.2.2.1; unfold maxLen at this; omega) (fun j hj => u8_wf (w0.2.2.2 j hj)) w1.1 (fun j hj => u8_wf (w1.2.2.2 j hj))

set_option maxRecDepth 100000 in
theorem lifted (os : Os) (started : os.Started) (H : Type) (enc : TypeId × Value → H) :
    ReturnsInHanded {} Try.checked os 7 .any (Rows.lexCommentsSpec.pre6 enc Try.prog Try.f7 Rows.lexCommentsRow.domain false) (Rows.lexCommentsSpec.post enc Try.prog Try.f7 false true false false) := by
  refine returnsInHanded_of_change (C := Try.checked) own started (by kernel_rfl) Try.func7
    (ChangeSpec.witness6 (enc := enc) (C := Try.checked) false ⟨#[], #[.slice none 0 0, .slice none 0 0], []⟩ 8 (by kernel_rfl) (by kernel_rfl) (by kernel_rfl) (by kernel_rfl)) ?_
  intro W base args ds gs before hval0 hW hcnd _
  have hval : ∀ (j : Nat) t v, Try.f7.params[j]? = some t → args[j]? = some v → Value.okWide Try.prog W .any base t v := hval0
  have hW' := hW
  obtain ⟨p, q, hA0, hV, rfl, hfz, hnd⟩ := hW
  have hA : DataW.TrodAll enc Try.prog W 0 (fun _ => true) true Try.f7.params.toList args.toList ds p := hA0
  rw [Try.params7] at hA hval
  obtain ⟨v0, vs0, d0, ds0, p0, q0, hargs, rfl, rfl, h0, r0⟩ := trodAll_cons hA
  obtain ⟨v1, vs1, d1, ds1, p1, q1, rfl, rfl, rfl, h1, r1⟩ := trodAll_cons r0
  obtain ⟨rfl, rfl, rfl⟩ := trodAll_nil r1
  obtain rfl : args = #[v0, v1] := by cases args; simp_all
  obtain ⟨rfl, rfl⟩ := trodVars_none hV
  obtain ⟨a0, len0, cap0, rfl⟩ := okWide_slice Try.underlying22 (hval 0 22 v0 rfl rfl)
  have k0 := h0
  have lt0 : ∀ x ∈ p0, x.block < W.heap.size := by obtain ⟨m, hm⟩ := k0; exact DataW.trod_lt m _ _ _ hm
  obtain ⟨z0, w0⟩ : ∃ z0 : Nat → Int, Row W a0 len0 (fun i => .int .u8 (z0 i)) ∧ len0 ≤ cap0 ∧ cap0 ≤ maxLen ∧ ∀ j, j < len0 → (Lit.int .u8 (z0 j)).wf = true := by
    obtain ⟨fuel, hf⟩ := h0
    rcases open_ints Try.underlying22 Try.underlying5 (by kernel_rfl) hf with ⟨hcs, _⟩ | ⟨x, l, c, zs, hcs, _, hl, hm, hz, _, hcell, hwz⟩
    · simp [Value.cells] at hcs
      obtain ⟨rfl, rfl, rfl⟩ := hcs
      exact ⟨fun _ => 0, Row.nil, Nat.le_refl _, Nat.zero_le _, fun j hj => absurd hj (Nat.not_lt_zero j)⟩
    · simp [Value.cells] at hcs
      obtain ⟨rfl, rfl, rfl⟩ := hcs
      exact ⟨fun j => zs.getD j 0, Row.of_add hl (fun j hj => hcell j (by simp at hz; omega)), hl, hm, fun j hj => getD_all hwz (by simp at hz; omega)⟩
  obtain ⟨a1, len1, cap1, rfl⟩ := okWide_slice Try.underlying22 (hval 1 22 v1 rfl rfl)
  have k1 := h1
  have lt1 : ∀ x ∈ p1, x.block < W.heap.size := by obtain ⟨m, hm⟩ := k1; exact DataW.trod_lt m _ _ _ hm
  obtain ⟨z1, w1⟩ : ∃ z1 : Nat → Int, Row W a1 len1 (fun i => .int .u8 (z1 i)) ∧ len1 ≤ cap1 ∧ cap1 ≤ maxLen ∧ ∀ j, j < len1 → (Lit.int .u8 (z1 j)).wf = true := by
    obtain ⟨fuel, hf⟩ := h1
    rcases open_ints Try.underlying22 Try.underlying5 (by kernel_rfl) hf with ⟨hcs, _⟩ | ⟨x, l, c, zs, hcs, _, hl, hm, hz, _, hcell, hwz⟩
    · simp [Value.cells] at hcs
      obtain ⟨rfl, rfl, rfl⟩ := hcs
      exact ⟨fun _ => 0, Row.nil, Nat.le_refl _, Nat.zero_le _, fun j hj => absurd hj (Nat.not_lt_zero j)⟩
    · simp [Value.cells] at hcs
      obtain ⟨rfl, rfl, rfl⟩ := hcs
      exact ⟨fun j => zs.getD j 0, Row.of_add hl (fun j hj => hcell j (by simp at hz; omega)), hl, hm, fun j hj => getD_all hwz (by simp at hz; omega)⟩
  clear hA0 hval0
  refine (walk a0 len0 cap0 z0 a1 len1 cap1 z1 W w0 w1).mono fun e W' ⟨he, bel⟩ => ?_
  subst he
  exact ⟨_, rfl, _, _, _, [], _, [], hW', trodAll_mk1 (shut_bool Try.underlying4 _), (trodAll_cons_mk (Below.trod laidOut (by kernel_rfl) (of_decide_eq_true (by kernel_rfl)) k0 bel lt0) (trodAll_cons_mk (Below.trod laidOut (by kernel_rfl) (of_decide_eq_true (by kernel_rfl)) k1 bel lt1) trodAll_mk0)), rfl, bel.frame _, fun h => by cases h⟩

theorem over : Rows.lexCommentsRow.holds Try.pinned (OpenSpec.ofChange Rows.lexCommentsSpec) :=
  OpenClaim.holds_of_wide 7 Try.f7 rfl rfl rfl rfl rfl rfl rfl ⟨rfl, rfl, rfl, rfl, rfl⟩ rfl rfl rfl rfl rfl (by kernel_rfl) Try.func7 (by kernel_rfl)
    (of_decide_eq_true (by kernel_rfl)) (by unfold Func.isWrapper; first | (rw [if_pos (by decide +kernel)]; kernel_rfl) | (rw [if_neg (by decide +kernel)]; exact ⟨rfl, rfl⟩))
    (fun os started H enc _ => lifted os started H enc)

theorem proved : Rows.LexCommentsSaid := over
#print axioms proved
end Go.Proofs.Ytomnomljljkdfaa.lexComments

