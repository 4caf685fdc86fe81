/- LexCuts: bytes that end ahead of a token have the tokens that are there, proved for any bytes. Conditions: none. -/
import Derived.Test.YtomnomljljkdfaaToks
import Derived.Deep.RegionHeld3
import Derived.Test.YtomnomljljkdfaaRows
import Derived.ProofKit
import Derived.OpenShut
import Derived.ShutString
import Derived.ChangeOld
import Derived.Deep.Grids
namespace Go.Proofs.Ytomnomljljkdfaa
open Go.RowKit
set_option linter.unusedVariables false
attribute [local go_sem] maxI minI

theorem i64_mask16 (n : Int) : bits .and .i64 n 65535 = n % 65536 := by
  have h127 : (BitVec.ofInt 64 65535).toNat = 2 ^ 16 - 1 := by decide
  have key : (BitVec.ofInt 64 n &&& BitVec.ofInt 64 65535).toNat = (n % ((2 ^ 64 : Nat) : Int)).toNat % 2 ^ 16 := by
    rw [BitVec.toNat_and, BitVec.toNat_ofInt, h127, Nat.and_two_pow_sub_one_eq_mod]
  show IntKind.i64.wrap ((BitVec.ofInt 64 n &&& BitVec.ofInt 64 65535).toNat : Nat) = _
  rw [key, IntKind.wrap_i64]
  omega

set_option maxRecDepth 100000 in
set_option maxHeartbeats 8000000 in
theorem cuts_walk (a0 : Option Addr) (len0 cap0 : Nat) (z : Nat → Int) (a1 : Int) (w : World) (hz : Row w a0 len0 (fun i => .int .u8 (z i))) (hcap : len0 ≤ cap0) (hm0 : cap0 ≤ 9223372036854775807) (hbz : ∀ j, j < len0 → 0 ≤ z j ∧ z j ≤ 255) :
    Calls Try.prog 9 #[.slice a0 len0 cap0, .int .i64 a1] w fun e w' => e = .returned (.bool true) ∧ Below w.heap.size w w' := by
  have HZ := hid hz
  have HB := hid hbz
  clear hz hbz
  obtain ⟨n, hn⟩ : ∃ n : Nat, min (len0 : Int) 2000 = n := ⟨min len0 2000, by omega⟩
  have hn2 : n ≤ 2000 := by omega
  have hnl : n ≤ len0 := by omega
  have HN := hid hn
  obtain ⟨A, hA, hA6⟩ : ∃ A : Nat, bits .and .i64 a1 65535 = (A : Int) ∧ A < 65536 := ⟨(a1 % 65536).toNat, by rw [i64_mask16]; omega, by omega⟩
  have hu32 := Try.underlying32
  go_enter Try.func9, Try.ntmps9
  go_wp2_with fail
  refine (shown_any _).mono ?_
  rintro e w1 ⟨rfl, hB⟩
  go_wp2_with fail
  refine (lex_toks a0 n cap0 z w1 ((HZ.out.le hnl).kept hB) (fun j hj => HB.out j (by omega)) (by omega)).mono ?_
  rintro e w2 ⟨⟨l, g, c, hl, rfl, hg, hc, hT⟩ | ⟨l, p, hl, rfl⟩, hB2⟩
  · have hll := hl.len
    have HL := hid hl
    clear hl
    have hb2 : Below w.heap.size w w2 := hB.trans (hB2.mono hB.size)
    have hgw : w.heap.size ≤ g := Nat.le_trans hB.size hg
    obtain ⟨i, hi, hil⟩ : ∃ i : Nat, (A : Int).tmod ((l.length : Int) + 1) = (i : Int) ∧ i ≤ l.length := by
      refine ⟨A % (l.length + 1), ?_, by have := Nat.mod_lt A (show 0 < l.length + 1 by omega); omega⟩
      rw [show (l.length : Int) + 1 = ((l.length + 1 : Nat) : Int) from by omega, Int.ofNat_tmod]
    obtain ⟨t, ht⟩ : ∃ t, (l ++ [⟨4, n, 0⟩])[i]? = some t := ⟨_, List.getElem?_eq_getElem (by simp; omega)⟩
    obtain ⟨_, htn, hcut⟩ := HL.out.cut rfl i t ht
    have HC := hid hcut
    clear hcut
    obtain ⟨t0, t1, t2⟩ := hT.at_ ht
    generalize hm : t.at_ = m at *
    have hN0 : ¬ ((l.length : Int) + 1 = 0) := by omega
    go_wp2_with fail
    have hb2s := hb2.size
    refine (lex_toks a0 m cap0 z w2 ((HZ.out.le (by omega)).kept hb2) (fun j hj => HB.out j (by omega)) (by omega)).mono ?_
    rintro e w3 ⟨⟨l', g', c', hl', rfl, hg', hc', hT'⟩ | ⟨l', p, hl', rfl⟩, hB3⟩
    · have e1 : l' = l.take i := (hl'.unique HC.out).1
      have hlen : l'.length = i := by rw [e1, List.length_take]; omega
      have hT3 := hT.below hB3 hT.lt
      have hb3 := hb2.trans (hB3.mono hb2s)
      obtain ⟨t0', t1', t2'⟩ := hT3.at_ ht
      rw [hm] at t2'
      obtain ⟨x0, x1, x2⟩ := hT'.at_ (show (l' ++ [⟨4, m, 0⟩])[i]? = some ⟨4, m, 0⟩ by rw [← hlen]; simp)
      rw [hlen] at hc' ⊢
      clear hT t0 t1 t2 t0' t1' x1
      dsimp only at x0 x2
      go_wp2_with fail
      go_quiet (fail)
      obtain ⟨w9, hw9⟩ : ∃ w9, w3.drewN nq = w9 := ⟨_, rfl⟩
      rw [hw9]
      have hT9 : Toks w9 g z (l ++ [⟨4, n, 0⟩]) := by rw [← hw9]; exact hT3.drewN _
      have hX9 : Toks w9 g' z (l' ++ [⟨4, m, 0⟩]) := by rw [← hw9]; exact hT'.drewN _
      have hb9 : Below w.heap.size w w9 := by rw [← hw9]; exact ⟨hb3.os, hb3.tape, hb3.output, hb3.size, hb3.block⟩
      have hll' : i ≤ l.length := hil
      clear hw9 hT3 hT' hb3 x0 x2 t2'
      go_wp2_with fail
      go_loopw [12] (fun v wr => ∃ (j mm : Nat), j ≤ i ∧ v = .int .i64 j ∧ wr = w9.drewN mm)
        (fun v _ => i - (intOf v).toNat)
      case atStart => exact ⟨0, 0, by omega, rfl, rfl⟩
      case round =>
        obtain ⟨j, mm, hj, rfl, rfl⟩ := hrel
        by_cases hji : j < i
        · obtain ⟨u, hu⟩ : ∃ u, l[j]? = some u := ⟨_, List.getElem?_eq_getElem (by omega)⟩
          have hu1 : (l ++ [⟨4, n, 0⟩])[j]? = some u := by rw [List.getElem?_append_left (by omega)]; exact hu
          have hu2 : (l' ++ [⟨4, m, 0⟩])[j]? = some u := by rw [List.getElem?_append_left (by omega), e1, List.getElem?_take, if_pos hji]; exact hu
          obtain ⟨y0, y1, y2⟩ := (hT9.drewN mm).at_ hu1
          obtain ⟨y3, y4, y5⟩ := (hX9.drewN mm).at_ hu2
          clear hu1 hu2 hu
          generalize u.kind = K at *
          generalize sub z u.at_ u.size = S at *
          generalize u.at_ = P at *
          obtain ⟨w12, hw12⟩ : ∃ w12, w9.drewN mm = w12 := ⟨_, rfl⟩
          rw [hw12] at y0 y1 y2 y3 y4 y5 ⊢
          have hj1 : (j : Int) < (i : Int) + 1 := by omega
          have hj2 : (j : Int) < (l.length : Int) + 1 := by omega
          go_wp2_with fail
          go_quiet (fail)
          go_wp2_with fail
          go_roundw
          case rel => exact ⟨j + 1, mm + nq, by omega, by go_num, by rw [← hw12, World.drewN_drewN]⟩
          case measure => simp [intOf]; omega
        · go_wp2_with fail
          go_ret
          exact ⟨rfl, ⟨hb9.os, hb9.tape, hb9.output, hb9.size, hb9.block⟩⟩
    · exact absurd (hl'.unique HC.out).2 (by simp)
  · go_wp2_with fail
    go_ret
    exact ⟨rfl, hB.trans (hB2.mono hB.size)⟩
end Go.Proofs.Ytomnomljljkdfaa

namespace Go.Proofs.Ytomnomljljkdfaa.lexCuts
open Go.ChangeShapes Go.WideShapes Go.ChangeAt Go.RowKit
open Go.ChangeMaps (open_string shut_string)
set_option linter.unusedVariables false

theorem own : ownKnob Try.prog.godebug = none := by kernel_rfl
theorem laidOut : laidOutB Try.prog = true := by kernel_rfl

theorem walk (a0 : Option Addr) (len0 cap0 : Nat) (z0 : Nat → Int) (a1 : Int) (w : World) (w0 : Row w a0 len0 (fun i => .int .u8 (z0 i)) ∧ len0 ≤ cap0 ∧ cap0 ≤ maxLen ∧ ∀ j, j < len0 → (Lit.int .u8 (z0 j)).wf = true) (w1 : (Lit.int .i64 a1).wf = true) :
    Calls Try.prog 9 #[.slice a0 len0 cap0, .int .i64 a1] w fun e w' => e = .returned (.bool true) ∧ Below w.heap.size w w' := by
  exact cuts_walk a0 len0 cap0 z0 a1 w w0.1 w0.2.1 (by have := w0.2.2.1; unfold maxLen at this; omega) (fun j hj => u8_wf (w0.2.2.2 j hj))

set_option maxRecDepth 100000 in
theorem lifted (os : Os) (started : os.Started) (H : Type) (enc : TypeId × Value → H) :
    ReturnsInHanded {} Try.checked os 9 .any (Rows.lexCutsSpec.pre6 enc Try.prog Try.f9 Rows.lexCutsRow.domain false) (Rows.lexCutsSpec.post enc Try.prog Try.f9 false true false false) := by
  refine returnsInHanded_of_change (C := Try.checked) own started (by kernel_rfl) Try.func9
    (ChangeSpec.witness6 (enc := enc) (C := Try.checked) false ⟨#[], #[.slice none 0 0, .int .i64 0], []⟩ 8 (by kernel_rfl) (by kernel_rfl) (by kernel_rfl) (by kernel_rfl)) ?_
  intro W base args ds gs before hval0 hW hcnd _
  have hval : ∀ (j : Nat) t v, Try.f9.params[j]? = some t → args[j]? = some v → Value.okWide Try.prog W .any base t v := hval0
  have hW' := hW
  obtain ⟨p, q, hA0, hV, rfl, hfz, hnd⟩ := hW
  have hA : DataW.TrodAll enc Try.prog W 0 (fun _ => true) true Try.f9.params.toList args.toList ds p := hA0
  rw [Try.params9] at hA hval
  obtain ⟨v0, vs0, d0, ds0, p0, q0, hargs, rfl, rfl, h0, r0⟩ := trodAll_cons hA
  obtain ⟨v1, vs1, d1, ds1, p1, q1, rfl, rfl, rfl, h1, r1⟩ := trodAll_cons r0
  obtain ⟨rfl, rfl, rfl⟩ := trodAll_nil r1
  obtain rfl : args = #[v0, v1] := by cases args; simp_all
  obtain ⟨rfl, rfl⟩ := trodVars_none hV
  obtain ⟨a0, len0, cap0, rfl⟩ := okWide_slice Try.underlying22 (hval 0 22 v0 rfl rfl)
  have k0 := h0
  have lt0 : ∀ x ∈ p0, x.block < W.heap.size := by obtain ⟨m, hm⟩ := k0; exact DataW.trod_lt m _ _ _ hm
  obtain ⟨z0, w0⟩ : ∃ z0 : Nat → Int, Row W a0 len0 (fun i => .int .u8 (z0 i)) ∧ len0 ≤ cap0 ∧ cap0 ≤ maxLen ∧ ∀ j, j < len0 → (Lit.int .u8 (z0 j)).wf = true := by
    obtain ⟨fuel, hf⟩ := h0
    rcases open_ints Try.underlying22 Try.underlying5 (by kernel_rfl) hf with ⟨hcs, _⟩ | ⟨x, l, c, zs, hcs, _, hl, hm, hz, _, hcell, hwz⟩
    · simp [Value.cells] at hcs
      obtain ⟨rfl, rfl, rfl⟩ := hcs
      exact ⟨fun _ => 0, Row.nil, Nat.le_refl _, Nat.zero_le _, fun j hj => absurd hj (Nat.not_lt_zero j)⟩
    · simp [Value.cells] at hcs
      obtain ⟨rfl, rfl, rfl⟩ := hcs
      exact ⟨fun j => zs.getD j 0, Row.of_add hl (fun j hj => hcell j (by simp at hz; omega)), hl, hm, fun j hj => getD_all hwz (by simp at hz; omega)⟩
  obtain ⟨a1, rfl, rfl, rfl, w1⟩ := open_int Try.underlying3 (hval 1 3 v1 rfl rfl) h1
  clear hA0 hval0
  refine (walk a0 len0 cap0 z0 a1 W w0 w1).mono fun e W' ⟨he, bel⟩ => ?_
  subst he
  exact ⟨_, rfl, _, _, _, [], _, [], hW', trodAll_mk1 (shut_bool Try.underlying4 _), (trodAll_cons_mk (Below.trod laidOut (by kernel_rfl) (of_decide_eq_true (by kernel_rfl)) k0 bel lt0) (trodAll_cons_mk (shut_int Try.underlying3 w1) trodAll_mk0)), rfl, bel.frame _, fun h => by cases h⟩

theorem over : Rows.lexCutsRow.holds Try.pinned (OpenSpec.ofChange Rows.lexCutsSpec) :=
  OpenClaim.holds_of_wide 9 Try.f9 rfl rfl rfl rfl rfl rfl rfl ⟨rfl, rfl, rfl, rfl, rfl⟩ rfl rfl rfl rfl rfl (by kernel_rfl) Try.func9 (by kernel_rfl)
    (of_decide_eq_true (by kernel_rfl)) (by unfold Func.isWrapper; first | (rw [if_pos (by decide +kernel)]; kernel_rfl) | (rw [if_neg (by decide +kernel)]; exact ⟨rfl, rfl⟩))
    (fun os started H enc _ => lifted os started H enc)

theorem proved : Rows.LexCutsSaid := over
#print axioms proved
end Go.Proofs.Ytomnomljljkdfaa.lexCuts

