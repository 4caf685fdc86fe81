/- MeterExact: just as much may be charged as there is, proved for every fuel and every cut of it. Conditions: none. -/
import Derived.Test.YtcndoidicnamkaaMeter
import Derived.ProofKit
import Derived.OpenShut
import Derived.ShutString
import Derived.ChangeOld
namespace Go.Proofs.Ytcndoidicnamkaa
open Go.RowKit

theorem i64_mask40 (n : Int) : bits .and .i64 n 1099511627775 = n % 1099511627776 := by
  have h127 : (BitVec.ofInt 64 1099511627775).toNat = 2 ^ 40 - 1 := by decide
  have key : (BitVec.ofInt 64 n &&& BitVec.ofInt 64 1099511627775).toNat = (n % ((2 ^ 64 : Nat) : Int)).toNat % 2 ^ 40 := by
    rw [BitVec.toNat_and, BitVec.toNat_ofInt, h127, Nat.and_two_pow_sub_one_eq_mod]
  show IntKind.i64.wrap ((BitVec.ofInt 64 n &&& BitVec.ofInt 64 1099511627775).toNat : Nat) = _
  rw [key, IntKind.wrap_i64]
  omega
theorem i64_mask16 (n : Int) : bits .and .i64 n 65535 = n % 65536 := by
  have h127 : (BitVec.ofInt 64 65535).toNat = 2 ^ 16 - 1 := by decide
  have key : (BitVec.ofInt 64 n &&& BitVec.ofInt 64 65535).toNat = (n % ((2 ^ 64 : Nat) : Int)).toNat % 2 ^ 16 := by
    rw [BitVec.toNat_and, BitVec.toNat_ofInt, h127, Nat.and_two_pow_sub_one_eq_mod]
  show IntKind.i64.wrap ((BitVec.ofInt 64 n &&& BitVec.ofInt 64 65535).toNat : Nat) = _
  rw [key, IntKind.wrap_i64]
  omega

theorem exact_walk (a0 a1 : Int) (w : World) :
    Calls Try.prog 6 #[.int .i64 a0, .int .i64 a1] w fun e w' => e = .returned (.bool true) ∧ Below w.heap.size w w' := by
  obtain ⟨F, hF⟩ : ∃ F, bits BinOp.and .i64 a0 1099511627775 = F := ⟨_, rfl⟩
  have hF0 : 0 ≤ F := by rw [← hF, i64_mask40]; omega
  have hF1 : F ≤ 1099511627775 := by rw [← hF, i64_mask40]; omega
  obtain ⟨A, hA⟩ : ∃ A, bits BinOp.and .i64 a1 1099511627775 = A := ⟨_, rfl⟩
  have hA0 : 0 ≤ A := by rw [← hA, i64_mask40]; omega
  have hA1 : A ≤ 1099511627775 := by rw [← hA, i64_mask40]; omega
  obtain ⟨R, hR⟩ : ∃ R, A % (F + 1) = R := ⟨_, rfl⟩
  have hR0 : 0 ≤ R := by rw [← hR]; exact Int.emod_nonneg _ (by omega)
  have hR1 : R ≤ F := by rw [← hR]; have := Int.emod_lt_of_pos A (show 0 < F + 1 by omega); omega
  go_enter Try.func6, Try.ntmps6
  go_wp2_with fail
  refine (shown_any _).mono ?_
  rintro e w1 ⟨rfl, hB⟩
  go_wp2_with fail
  refine (new_any F _).mono ?_
  rintro e w2 ⟨rfl, hw⟩
  have hM : IsM w2 w1.heap.size 0 F := by rw [hw, show capF F = F from by unfold capF; omega]; exact heap_alloc_new w1 _
  have hB2 : Below w.heap.size w w2 := by rw [hw]; exact hB.alloc hB.size _
  have hg : w.heap.size ≤ w1.heap.size := hB.size
  generalize w1.heap.size = g at hM hg ⊢
  clear hw hB
  go_wp2_with fail
  have e1 : chE 0 F R = 0 := by unfold chE; rw [if_neg (by omega), if_neg (by omega), if_neg (by omega)]
  have n1 : chN 0 F R = R := by unfold chN; rw [if_neg (by omega), if_neg (by omega)]; omega
  have e2 : chE R F (F - R) = 0 := by unfold chE; rw [if_neg (by omega), if_neg (by omega), if_neg (by omega)]
  have n2 : chN R F (F - R) = F := by unfold chN; rw [if_neg (by omega), if_neg (by omega)]; omega
  have e3 : chE F F 0 = 0 := by unfold chE; rw [if_neg (by omega), if_neg (by omega), if_neg (by omega)]
  have n3 : chN F F 0 = F := by unfold chN; rw [if_neg (by omega), if_neg (by omega)]; omega
  have e4 : chE F F 1 = 8 := by unfold chE; rw [if_neg (by omega), if_neg (by omega), if_pos (by omega)]
  have n4 : chN F F 1 = F + 1 := by unfold chN; rw [if_neg (by omega), if_neg (by omega)]
  have e5 : chE (F + 1) F 0 = 8 := by unfold chE; rw [if_neg (by omega), if_pos (by omega)]
  refine (charge_any g 0 F R _ hM (by omega) (by omega)).mono ?_
  rintro e w3 ⟨rfl, h3, u3⟩
  rw [n1] at h3
  rw [e1]
  go_wp2_with fail
  refine (charge_any g R F (F - R) _ h3 (by omega) (by omega)).mono ?_
  rintro e w4 ⟨rfl, h4, u4⟩
  rw [n2] at h4
  rw [e2]
  go_wp2_with fail
  refine (over_no g F F _ h4 (by omega)).mono ?_
  rintro e w5 ⟨rfl, m5, rfl⟩
  go_wp2_with fail
  have h5 := h4.drewN m5
  refine (now_any g F _ h5.c0).mono ?_
  rintro e w6 ⟨rfl, rfl⟩
  go_wp2_with fail
  refine (charge_any g F F 0 _ h5 (by omega) (by omega)).mono ?_
  rintro e w7 ⟨rfl, h7, u7⟩
  rw [n3] at h7
  rw [e3]
  go_wp2_with fail
  refine (charge_any g F F 1 _ h7 (by omega) (by omega)).mono ?_
  rintro e w8 ⟨rfl, h8, u8⟩
  rw [n4] at h8
  rw [e4]
  go_wp2_with fail
  refine (over_yes g (F + 1) F _ h8 (by omega)).mono ?_
  rintro e w9 ⟨rfl, m9, rfl⟩
  go_wp2_with fail
  have h9 := h8.drewN m9
  refine (now_any g (F + 1) _ h9.c0).mono ?_
  rintro e w10 ⟨rfl, rfl⟩
  go_wp2_with fail
  refine (charge_any g (F + 1) F 0 _ h9 (by omega) (by omega)).mono ?_
  rintro e w11 ⟨rfl, h11, u11⟩
  rw [e5]
  go_wp2_with fail
  go_ret
  exact ⟨rfl, hB2.trans ((((((u3.trans u4).drewN _).trans u7).trans u8).drewN _ |>.trans u11).below hg)⟩

end Go.Proofs.Ytcndoidicnamkaa

namespace Go.Proofs.Ytcndoidicnamkaa.meterExact
open Go.ChangeShapes Go.WideShapes Go.ChangeAt Go.RowKit
open Go.ChangeMaps (open_string shut_string)
set_option linter.unusedVariables false

theorem own : ownKnob Try.prog.godebug = none := by kernel_rfl

/-! ### THE ROW's STEP: WRITTEN OUT: LEAVE IT -/
set_option maxRecDepth 100000 in
theorem lifted (os : Os) (started : os.Started) (H : Type) (enc : TypeId × Value → H) :
    ReturnsInHanded {} Try.checked os 6 .any (Rows.meterExactSpec.pre6 enc Try.prog Try.f6 Rows.meterExactRow.domain false) (Rows.meterExactSpec.post enc Try.prog Try.f6 false true false false) := by
  refine returnsInHanded_of_change (C := Try.checked) own started (by kernel_rfl) Try.func6
    (ChangeSpec.witness6 (enc := enc) (C := Try.checked) false ⟨#[], #[.int .i64 0, .int .i64 0], []⟩ 8 (by kernel_rfl) (by kernel_rfl) (by kernel_rfl) (by kernel_rfl)) ?_
  intro W base args ds gs before hval0 hW hcnd _
  have hval : ∀ (j : Nat) t v, Try.f6.params[j]? = some t → args[j]? = some v → Value.okWide Try.prog W .any base t v := hval0
  have hW' := hW
  obtain ⟨p, q, hA0, hV, rfl, hfz, hnd⟩ := hW
  have hA : DataW.TrodAll enc Try.prog W 0 (fun _ => true) true Try.f6.params.toList args.toList ds p := hA0
  rw [Try.params6] at hA hval
  obtain ⟨v0, vs0, d0, ds0, p0, q0, hargs, rfl, rfl, h0, r0⟩ := trodAll_cons hA
  obtain ⟨v1, vs1, d1, ds1, p1, q1, rfl, rfl, rfl, h1, r1⟩ := trodAll_cons r0
  obtain ⟨rfl, rfl, rfl⟩ := trodAll_nil r1
  obtain rfl : args = #[v0, v1] := by cases args; simp_all
  obtain ⟨rfl, rfl⟩ := trodVars_none hV
  obtain ⟨a0, rfl, rfl, rfl, w0⟩ := open_int Try.underlying2 (hval 0 2 v0 rfl rfl) h0
  obtain ⟨a1, rfl, rfl, rfl, w1⟩ := open_int Try.underlying2 (hval 1 2 v1 rfl rfl) h1
  clear hA0 hval0
  simp only [List.append_nil] at hW'
  refine (exact_walk a0 a1 W).mono fun e W' ⟨he, bel⟩ => ?_
  subst he
  exact ⟨_, rfl, _, _, _, [], _, [], hW', trodAll_mk1 (shut_bool Try.underlying4 _), (trodAll_cons_mk (shut_int Try.underlying2 w0) (trodAll_cons_mk (shut_int Try.underlying2 w1) trodAll_mk0)), rfl, bel.frame _, fun h => by cases h⟩

theorem over : Rows.meterExactRow.holds Try.pinned (OpenSpec.ofChange Rows.meterExactSpec) :=
  OpenClaim.holds_of_wide 6 Try.f6 rfl rfl rfl rfl rfl rfl rfl ⟨rfl, rfl, rfl, rfl, rfl⟩ rfl rfl rfl rfl rfl (by kernel_rfl) Try.func6 (by kernel_rfl)
    (of_decide_eq_true (by kernel_rfl)) (by unfold Func.isWrapper; first | (rw [if_pos (by decide +kernel)]; kernel_rfl) | (rw [if_neg (by decide +kernel)]; exact ⟨rfl, rfl⟩))
    (fun os started H enc _ => lifted os started H enc)

/-- ████ THE STATEMENT ████ -/
theorem proved : Rows.MeterExactSaid :=
  over
#print axioms proved
end Go.Proofs.Ytcndoidicnamkaa.meterExact
