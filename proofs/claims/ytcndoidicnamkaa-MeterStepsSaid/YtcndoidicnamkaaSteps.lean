/- MeterSteps: by charges of one size a meter is over behind just as many as go into the fuel, proved for every fuel and size. Conditions: none. -/
import Derived.Test.YtcndoidicnamkaaExact
import Derived.Deep.RegionHeld3
import Derived.ProofKit
import Derived.OpenShut
import Derived.ShutString
import Derived.ChangeOld
namespace Go.Proofs.Ytcndoidicnamkaa
open Go.RowKit

set_option maxRecDepth 100000 in
set_option maxHeartbeats 1000000 in
theorem steps_walk (a0 a1 : Int) (w : World) :
    Calls Try.prog 8 #[.int .i64 a0, .int .i64 a1] w fun e w' => e = .returned (.bool true) ∧ Below w.heap.size w w' := by
  obtain ⟨A, hA⟩ : ∃ F, bits BinOp.and .i64 a0 65535 = F := ⟨_, rfl⟩
  have hA0 : 0 ≤ A := by rw [← hA, i64_mask16]; omega
  obtain ⟨B, hB⟩ : ∃ A, bits BinOp.and .i64 a1 65535 = A := ⟨_, rfl⟩
  have hB0 : 0 ≤ B := by rw [← hB, i64_mask16]; omega
  obtain ⟨F, hF⟩ : ∃ R, A % 1001 = R := ⟨_, rfl⟩
  have hF0 : 0 ≤ F := by omega
  have hF1 : F ≤ 1000 := by omega
  obtain ⟨N, hN⟩ : ∃ R, 1 + B % 100 = R := ⟨_, rfl⟩
  have hN0 : 1 ≤ N := by omega
  have hN1 : N ≤ 100 := by omega
  obtain ⟨D, hD⟩ : ∃ R, F / N = R := ⟨_, rfl⟩
  have hD0 : 0 ≤ D := by rw [← hD]; exact Int.ediv_nonneg hF0 (by omega)
  have hD1 : N * D ≤ F := by rw [← hD]; exact Int.mul_ediv_self_le (by omega)
  have hD2 : F < N * D + N := by
    have := Int.lt_mul_ediv_self_add (x := F) (k := N) (by omega)
    rw [hD] at this; exact this
  have HD := hid hD
  go_enter Try.func8, Try.ntmps8
  go_wp2_with fail
  refine (shown_any _).mono ?_
  rintro e w1 ⟨rfl, hB⟩
  go_wp2_with fail
  refine (new_any F _).mono ?_
  rintro e w2 ⟨rfl, hw⟩
  have hM : IsM w2 w1.heap.size 0 F := by rw [hw, show capF F = F from by unfold capF; omega]; exact heap_alloc_new w1 _
  have hB2 : Below w.heap.size w w2 := by rw [hw]; exact hB.alloc hB.size _
  have hg : w.heap.size ≤ w1.heap.size := hB.size
  generalize w1.heap.size = g at hM hg ⊢
  clear hw hB
  rw [hF]
  go_wp2_with fail
  clear hA hF hN
  go_loopw [7] (fun i wr => ∃ (k : Nat) (P : Int), i = .int .i64 k ∧ (k : Int) ≤ D ∧ Hid (N * k = P) ∧ IsM wr g P F ∧ 0 ≤ P ∧ P ≤ F ∧ Below w.heap.size w wr)
    (fun i _ => (D - intOf i).toNat)
  case atStart => exact ⟨0, 0, rfl, by omega, by simp [Hid], hM, by omega, by omega, hB2⟩
  case round =>
    obtain ⟨k, P, rfl, hk, hP, hm, hP0, hP1, hb⟩ := hrel
    have hmul : N * ((k : Int) + 1) = P + N := by rw [Int.mul_add, hP.out]; omega
    by_cases hlt : (k : Int) < D
    · have hPN : P + N ≤ F := by
        have : N * ((k : Int) + 1) ≤ N * D := Int.mul_le_mul_of_nonneg_left (by omega) (by omega)
        omega
      have hk1 : (k : Int) ≤ 1000 := by
        have : 1 * D ≤ N * D := Int.mul_le_mul_of_nonneg_right (by omega) (by omega)
        omega
      go_wp2_with fail
      refine (charge_any g P F N _ hm (by omega) (by omega)).mono ?_
      rintro e w3 ⟨rfl, h3, u3⟩
      rw [show chE P F N = 0 from by unfold chE; rw [if_neg (by omega), if_neg (by omega), if_neg (by omega)]]
      rw [show chN P F N = P + N from by unfold chN; rw [if_neg (by omega), if_neg (by omega)]] at h3
      go_wp2_with fail
      refine (now_any g _ _ h3.c0).mono ?_
      rintro e w4 ⟨rfl, rfl⟩
      go_wp2_with fail
      go_roundw
      case rel => exact ⟨k + 1, P + N, by go_num, by omega, hmul, h3, by omega, by omega, hb.trans (u3.below hg)⟩
      case measure => simp [intOf]; omega
    · have hkD : (k : Int) = D := by omega
      have hNF : F < P + N := by have := hP.out; rw [hkD] at this; omega
      rw [hkD] at hmul
      have hD1000 : D ≤ 1000 := by
        have : 1 * D ≤ N * D := Int.mul_le_mul_of_nonneg_right (by omega) (by omega)
        omega
      go_wp2_with fail
      have hN' : ¬ N = 0 := by omega
      have hd : F.tdiv N = D := by rw [Int.tdiv_eq_ediv_of_nonneg hF0]; exact HD.out
      have hw : IntKind.i64.wrap D = D := IntWalk.i64_in _ (by omega)
      have hs1 : IntKind.i64.wrap (D + 1) = D + 1 := IntWalk.i64_in _ (by omega)
      have hs2 : IntKind.i64.wrap (P + N) = P + N := IntWalk.i64_in _ (by omega)
      go_region_held3 (fun _ => True) (trivial) (first
        | (go_at_call 12; refine (charge_any g P F N _ (by exact hm) (by omega) (by omega)).mono ?_; rintro e w3 ⟨rfl, h3, u3⟩
           rw [show chE P F N = 8 from by unfold chE; rw [if_neg (by omega), if_neg (by omega), if_pos (by omega)]]
           rw [show chN P F N = P + N from by unfold chN; rw [if_neg (by omega), if_neg (by omega)]] at h3)
        | (go_at_call 14; refine (now_any g (P + N) _ (by exact IsM.c0 h3)).mono ?_; rintro e w4 ⟨rfl, rfl⟩)
        | (go_at_call 15; refine (over_yes g (P + N) F _ (by exact h3) (by omega)).mono ?_; rintro e w5 ⟨rfl, m5, rfl⟩))
      go_wp2_with fail
      go_ret
      exact ⟨rfl, hb.drew.trans ((u3.drewN _).below hg)⟩

end Go.Proofs.Ytcndoidicnamkaa

namespace Go.Proofs.Ytcndoidicnamkaa.meterSteps
open Go.ChangeShapes Go.WideShapes Go.ChangeAt Go.RowKit
open Go.ChangeMaps (open_string shut_string)
set_option linter.unusedVariables false      -- a walk need not use every 'w<i>' (that an integer argument fits its kind)

theorem own : ownKnob Try.prog.godebug = none := by kernel_rfl

theorem walk (a0 : Int) (a1 : Int) (w0 : (Lit.int .i64 a0).wf = true) (w1 : (Lit.int .i64 a1).wf = true) (w : World) :
    Calls Try.prog 8 #[.int .i64 a0, .int .i64 a1] w fun e w' => e = .returned (.bool true) ∧ Below w.heap.size w w' := by
  exact steps_walk a0 a1 w

set_option maxRecDepth 100000 in
theorem lifted (os : Os) (started : os.Started) (H : Type) (enc : TypeId × Value → H) :
    ReturnsInHanded {} Try.checked os 8 .any (Rows.meterStepsSpec.pre6 enc Try.prog Try.f8 Rows.meterStepsRow.domain false) (Rows.meterStepsSpec.post enc Try.prog Try.f8 false true false false) := by
  refine returnsInHanded_of_change (C := Try.checked) own started (by kernel_rfl) Try.func8
    (ChangeSpec.witness6 (enc := enc) (C := Try.checked) false ⟨#[], #[.int .i64 0, .int .i64 0], []⟩ 8 (by kernel_rfl) (by kernel_rfl) (by kernel_rfl) (by kernel_rfl)) ?_
  intro W base args ds gs before hval0 hW hcnd _
  have hval : ∀ (j : Nat) t v, Try.f8.params[j]? = some t → args[j]? = some v → Value.okWide Try.prog W .any base t v := hval0
  have hW' := hW
  obtain ⟨p, q, hA0, hV, rfl, hfz, hnd⟩ := hW
  have hA : DataW.TrodAll enc Try.prog W 0 (fun _ => true) true Try.f8.params.toList args.toList ds p := hA0
  rw [Try.params8] at hA hval
  obtain ⟨v0, vs0, d0, ds0, p0, q0, hargs, rfl, rfl, h0, r0⟩ := trodAll_cons hA
  obtain ⟨v1, vs1, d1, ds1, p1, q1, rfl, rfl, rfl, h1, r1⟩ := trodAll_cons r0
  obtain ⟨rfl, rfl, rfl⟩ := trodAll_nil r1
  obtain rfl : args = #[v0, v1] := by cases args; simp_all
  obtain ⟨rfl, rfl⟩ := trodVars_none hV
  obtain ⟨a0, rfl, rfl, rfl, w0⟩ := open_int Try.underlying2 (hval 0 2 v0 rfl rfl) h0
  obtain ⟨a1, rfl, rfl, rfl, w1⟩ := open_int Try.underlying2 (hval 1 2 v1 rfl rfl) h1
  clear hA0 hval0
  simp only [List.append_nil] at hW'
  refine (walk a0 a1 w0 w1 W).mono fun e W' ⟨he, bel⟩ => ?_
  subst he
  exact ⟨_, rfl, _, _, _, [], _, [], hW', trodAll_mk1 (shut_bool Try.underlying4 _), (trodAll_cons_mk (shut_int Try.underlying2 w0) (trodAll_cons_mk (shut_int Try.underlying2 w1) trodAll_mk0)), rfl, bel.frame _, fun h => by cases h⟩

theorem over : Rows.meterStepsRow.holds Try.pinned (OpenSpec.ofChange Rows.meterStepsSpec) :=
  OpenClaim.holds_of_wide 8 Try.f8 rfl rfl rfl rfl rfl rfl rfl ⟨rfl, rfl, rfl, rfl, rfl⟩ rfl rfl rfl rfl rfl (by kernel_rfl) Try.func8 (by kernel_rfl)
    (of_decide_eq_true (by kernel_rfl)) (by unfold Func.isWrapper; first | (rw [if_pos (by decide +kernel)]; kernel_rfl) | (rw [if_neg (by decide +kernel)]; exact ⟨rfl, rfl⟩))
    (fun os started H enc _ => lifted os started H enc)

theorem proved : Rows.MeterStepsSaid :=
  over
#print axioms proved
end Go.Proofs.Ytcndoidicnamkaa.meterSteps
