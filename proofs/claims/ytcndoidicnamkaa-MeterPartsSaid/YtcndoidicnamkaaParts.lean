/- MeterParts: charged in parts it is the same as long as it lasts, proved for every fuel and every charges. Conditions: none. -/
import Derived.Test.YtcndoidicnamkaaMeter
import Derived.ProofKit
import Derived.OpenShut
import Derived.ShutString
import Derived.ChangeOld
namespace Go.Proofs.Ytcndoidicnamkaa
open Go.RowKit

theorem u32_mask20 (n : Int) : bits .and .u32 n 1048575 = n % 1048576 := by
  have h127 : (BitVec.ofInt 32 1048575).toNat = 2 ^ 20 - 1 := by decide
  have key : (BitVec.ofInt 32 n &&& BitVec.ofInt 32 1048575).toNat = (n % ((2 ^ 32 : Nat) : Int)).toNat % 2 ^ 20 := by
    rw [BitVec.toNat_and, BitVec.toNat_ofInt, h127, Nat.and_two_pow_sub_one_eq_mod]
  show IntKind.u32.wrap ((BitVec.ofInt 32 n &&& BitVec.ofInt 32 1048575).toNat : Nat) = _
  rw [key, IntKind.wrap_u32]
  omega

set_option linter.unusedVariables false in
set_option maxRecDepth 100000 in
set_option maxHeartbeats 4000000 in
theorem parts_walk (F0 : Int) (a1 : Option Addr) (len cap : Nat) (z : Nat → Int) (w : World) (hz : Row w.heap.size w a1 len (fun i => .int .u32 (z i))) :
    Calls Try.prog 5 #[.int .i64 F0, .slice a1 len cap] w fun e w' => e = .returned (.bool true) ∧ Below w.heap.size w w' := by
  have HZ := hid hz
  clear hz
  obtain ⟨F, hF⟩ : ∃ F, capF F0 = F := ⟨_, rfl⟩
  have hF0 : 0 ≤ F := by rw [← hF]; unfold capF; omega
  have hF1 : F ≤ 1099511627776 := by rw [← hF]; unfold capF; omega
  have HF := hid hF
  clear hF
  go_enter Try.func5, Try.ntmps5
  go_wp2_with fail
  refine (shown_any _).mono ?_
  rintro e w1 ⟨rfl, hB⟩
  go_wp2_with fail
  refine (new_any F0 _).mono ?_
  rintro e w2 ⟨rfl, hw⟩
  have hM : IsM w2 w1.heap.size 0 F := by rw [hw, HF.out]; exact heap_alloc_new w1 _
  have hB2 : Below w.heap.size w w2 := by rw [hw]; exact hB.alloc hB.size _
  have hg : w.heap.size ≤ w1.heap.size := hB.size
  generalize w1.heap.size = g at hM hg ⊢
  clear hw hB
  go_wp2_with fail
  refine (new_any F0 _).mono ?_
  rintro e w3 ⟨rfl, hw⟩
  have hM2 : IsM w3 w2.heap.size 0 F := by rw [hw, HF.out]; exact heap_alloc_new w2 _
  have hM1 : IsM w3 g 0 F := by rw [hw]; exact (Below.heap_alloc _ _ _ hM.lt).trans hM
  have hB3 : Below w.heap.size w w3 := by rw [hw]; exact hB2.alloc hB2.size _
  have hgg : g < w2.heap.size := hM.lt
  generalize w2.heap.size = g2 at hM2 hgg ⊢
  have hg2 : w.heap.size ≤ g2 := by omega
  clear hw hB2 hM
  go_wp2_with fail
  have step : ∀ n s x : Int, 0 ≤ s → s ≤ 104857600 → 0 ≤ x → x ≤ 1048575 → ((n = s ∧ s ≤ F) ∨ (F < n ∧ n ≤ s)) → ((chN n F x = s + x ∧ s + x ≤ F) ∨ (F < chN n F x ∧ chN n F x ≤ s + x)) := by
    intro n s x h1 h2 h3 h4 h5
    unfold chN
    rw [if_neg (by omega)]
    split <;> omega
  have STEP := hid step
  clear step
  go_loopw [8, 9] (fun sum i wr => ∃ (k : Nat) (s n : Int), k ≤ len ∧ k ≤ 100 ∧ i = .int .i64 k ∧ sum = .int .i64 s ∧ 0 ≤ s ∧ s ≤ k * 1048576 ∧ Hid ((n = s ∧ s ≤ F) ∨ (F < n ∧ n ≤ s)) ∧ 0 ≤ n ∧ IsM wr g n F ∧ IsM wr g2 0 F ∧ Below w.heap.size w wr)
    (fun _ i _ => len - (intOf i).toNat)
  case atStart => exact ⟨0, 0, 0, Nat.zero_le _, by omega, rfl, rfl, by omega, by omega, .inl ⟨rfl, hF0⟩, by omega, hM1, hM2, hB3⟩
  case round =>
    obtain ⟨k, s, n, hk, hk1, rfl, rfl, hs0, hs1, hrl, hn0, hm1, hm2, hb⟩ := hrel
    by_cases hlt : k < len
    · by_cases h100 : k < 100
      · obtain ⟨b, off, rfl, hbl, hc⟩ := HZ.out.below hb k hlt
        replace hc : wr.cell? ⟨b, off + k, none⟩ = some (.int .u32 (z k)) := hc
        obtain ⟨x, hx⟩ : ∃ x, bits BinOp.and .u32 (z k) 1048575 = x := ⟨_, rfl⟩
        have hx0 : 0 ≤ x := by rw [← hx, u32_mask20]; omega
        have hx1 : x ≤ 1048575 := by rw [← hx, u32_mask20]; omega
        have hst : Hid _ := STEP.out n s x hs0 (by omega) hx0 hx1 hrl.out
        have hcn : Hid (0 ≤ chN n F x) := by unfold Hid chN; rw [if_neg (by omega)]; split <;> omega
        go_wp2_with fail
        refine (charge_any g n F x _ hm1 (by omega) (by omega)).mono ?_
        rintro e w4 ⟨rfl, h4, u4⟩
        generalize chN n F x = n' at h4 hst hcn
        go_wp2_with fail
        go_roundw
        case rel =>
          exact ⟨k + 1, s + x, n', by omega, by omega, by go_num, rfl, by omega, by omega, hst, hcn.out, h4, u4.isM (by omega) hm2, hb.trans (u4.below hg)⟩
        case measure => simp [intOf]; omega
      · rcases hrl.out with ⟨rfl, hsF⟩ | ⟨hFn, hns⟩
        · clear hrl
          have e1 : Hid (chE 0 F n = 0) := by unfold Hid chE; rw [if_neg (by omega), if_neg (by omega), if_neg (by omega)]
          have n1 : chN 0 F n = n := by unfold chN; rw [if_neg (by omega), if_neg (by omega)]; omega
          have N1 := hid n1
          clear n1
          go_wp2_with fail
          refine (charge_any g2 0 F n _ hm2 (by omega) (by omega)).mono ?_
          rintro e w4 ⟨rfl, h4, u4⟩
          rw [N1.out] at h4
          rw [e1.out]
          have hm4 := u4.isM (by omega) hm1
          go_wp2_with fail
          refine (over_no g n F _ hm4 (by omega)).mono ?_
          rintro e w5 ⟨rfl, m5, rfl⟩
          go_wp2_with fail
          refine (over_no g2 n F _ (h4.drewN m5) (by omega)).mono ?_
          rintro e w5 ⟨rfl, m6, rfl⟩
          go_wp2_with fail
          refine (over_no g2 n F _ (h4.drewN _) (by omega)).mono ?_
          rintro e w5 ⟨rfl, m7, rfl⟩
          go_wp2_with fail
          refine (now_any g2 n _ (h4.drewN _).c0).mono ?_
          rintro e w5 ⟨rfl, rfl⟩
          go_wp2_with fail
          refine (over_no g2 n F _ (h4.drewN _) (by omega)).mono ?_
          rintro e w5 ⟨rfl, m8, rfl⟩
          go_wp2_with fail
          refine (now_any g n _ (hm4.drewN _).c0).mono ?_
          rintro e w5 ⟨rfl, rfl⟩
          go_wp2_with fail
          refine (now_any g n _ (hm4.drewN _).c0).mono ?_
          rintro e w5 ⟨rfl, rfl⟩
          go_wp2_with fail
          go_ret
          exact ⟨rfl, hb.trans ((u4.drewN _).below hg2)⟩
        · clear hrl
          have e1 : Hid (chE 0 F s = 8) := by unfold Hid chE; rw [if_neg (by omega), if_neg (by omega), if_pos (by omega)]
          have n1 : chN 0 F s = s := by unfold chN; rw [if_neg (by omega), if_neg (by omega)]; omega
          have N1 := hid n1
          clear n1
          go_wp2_with fail
          refine (charge_any g2 0 F s _ hm2 (by omega) (by omega)).mono ?_
          rintro e w4 ⟨rfl, h4, u4⟩
          rw [N1.out] at h4
          rw [e1.out]
          have hm4 := u4.isM (by omega) hm1
          go_wp2_with fail
          refine (over_yes g n F _ hm4 (by omega)).mono ?_
          rintro e w5 ⟨rfl, m5, rfl⟩
          go_wp2_with fail
          refine (over_yes g2 s F _ (h4.drewN m5) (by omega)).mono ?_
          rintro e w5 ⟨rfl, m6, rfl⟩
          go_wp2_with fail
          refine (over_yes g2 s F _ (h4.drewN _) (by omega)).mono ?_
          rintro e w5 ⟨rfl, m7, rfl⟩
          go_wp2_with fail
          refine (now_any g2 s _ (h4.drewN _).c0).mono ?_
          rintro e w5 ⟨rfl, rfl⟩
          go_wp2_with fail
          refine (over_yes g2 s F _ (h4.drewN _) (by omega)).mono ?_
          rintro e w5 ⟨rfl, m8, rfl⟩
          go_wp2_with fail
          refine (now_any g n _ (hm4.drewN _).c0).mono ?_
          rintro e w5 ⟨rfl, rfl⟩
          go_wp2_with fail
          go_ret
          exact ⟨rfl, hb.trans ((u4.drewN _).below hg2)⟩
    · rcases hrl.out with ⟨rfl, hsF⟩ | ⟨hFn, hns⟩
      · clear hrl
        have e1 : Hid (chE 0 F n = 0) := by unfold Hid chE; rw [if_neg (by omega), if_neg (by omega), if_neg (by omega)]
        have n1 : chN 0 F n = n := by unfold chN; rw [if_neg (by omega), if_neg (by omega)]; omega
        have N1 := hid n1
        clear n1
        go_wp2_with fail
        refine (charge_any g2 0 F n _ hm2 (by omega) (by omega)).mono ?_
        rintro e w4 ⟨rfl, h4, u4⟩
        rw [N1.out] at h4
        rw [e1.out]
        have hm4 := u4.isM (by omega) hm1
        go_wp2_with fail
        refine (over_no g n F _ hm4 (by omega)).mono ?_
        rintro e w5 ⟨rfl, m5, rfl⟩
        go_wp2_with fail
        refine (over_no g2 n F _ (h4.drewN m5) (by omega)).mono ?_
        rintro e w5 ⟨rfl, m6, rfl⟩
        go_wp2_with fail
        refine (over_no g2 n F _ (h4.drewN _) (by omega)).mono ?_
        rintro e w5 ⟨rfl, m7, rfl⟩
        go_wp2_with fail
        refine (now_any g2 n _ (h4.drewN _).c0).mono ?_
        rintro e w5 ⟨rfl, rfl⟩
        go_wp2_with fail
        refine (over_no g2 n F _ (h4.drewN _) (by omega)).mono ?_
        rintro e w5 ⟨rfl, m8, rfl⟩
        go_wp2_with fail
        refine (now_any g n _ (hm4.drewN _).c0).mono ?_
        rintro e w5 ⟨rfl, rfl⟩
        go_wp2_with fail
        refine (now_any g n _ (hm4.drewN _).c0).mono ?_
        rintro e w5 ⟨rfl, rfl⟩
        go_wp2_with fail
        go_ret
        exact ⟨rfl, hb.trans ((u4.drewN _).below hg2)⟩
      · clear hrl
        have e1 : Hid (chE 0 F s = 8) := by unfold Hid chE; rw [if_neg (by omega), if_neg (by omega), if_pos (by omega)]
        have n1 : chN 0 F s = s := by unfold chN; rw [if_neg (by omega), if_neg (by omega)]; omega
        have N1 := hid n1
        clear n1
        go_wp2_with fail
        refine (charge_any g2 0 F s _ hm2 (by omega) (by omega)).mono ?_
        rintro e w4 ⟨rfl, h4, u4⟩
        rw [N1.out] at h4
        rw [e1.out]
        have hm4 := u4.isM (by omega) hm1
        go_wp2_with fail
        refine (over_yes g n F _ hm4 (by omega)).mono ?_
        rintro e w5 ⟨rfl, m5, rfl⟩
        go_wp2_with fail
        refine (over_yes g2 s F _ (h4.drewN m5) (by omega)).mono ?_
        rintro e w5 ⟨rfl, m6, rfl⟩
        go_wp2_with fail
        refine (over_yes g2 s F _ (h4.drewN _) (by omega)).mono ?_
        rintro e w5 ⟨rfl, m7, rfl⟩
        go_wp2_with fail
        refine (now_any g2 s _ (h4.drewN _).c0).mono ?_
        rintro e w5 ⟨rfl, rfl⟩
        go_wp2_with fail
        refine (over_yes g2 s F _ (h4.drewN _) (by omega)).mono ?_
        rintro e w5 ⟨rfl, m8, rfl⟩
        go_wp2_with fail
        refine (now_any g n _ (hm4.drewN _).c0).mono ?_
        rintro e w5 ⟨rfl, rfl⟩
        go_wp2_with fail
        go_ret
        exact ⟨rfl, hb.trans ((u4.drewN _).below hg2)⟩

end Go.Proofs.Ytcndoidicnamkaa

namespace Go.Proofs.Ytcndoidicnamkaa.meterParts
open Go.ChangeShapes Go.WideShapes Go.ChangeAt Go.RowKit
open Go.ChangeMaps (open_string shut_string)
set_option linter.unusedVariables false

theorem own : ownKnob Try.prog.godebug = none := by kernel_rfl
theorem laidOut : laidOutB Try.prog = true := by kernel_rfl

theorem walk (a0 : Int) (a1 : Option Addr) (len1 cap1 : Nat) (z1 : List Int) (w : World) (w0 : (Lit.int .i64 a0).wf = true) (w1 : IsRow .u32 w a1 len1 cap1 z1) :
    Calls Try.prog 5 #[.int .i64 a0, .slice a1 len1 cap1] w fun e w' => e = .returned (.bool true) ∧ Below w.heap.size w w' := by
  exact parts_walk a0 a1 len1 cap1 _ w w1.row

set_option maxRecDepth 100000 in
theorem lifted (os : Os) (started : os.Started) (H : Type) (enc : TypeId × Value → H) :
    ReturnsInHanded {} Try.checked os 5 .any (Rows.meterPartsSpec.pre6 enc Try.prog Try.f5 Rows.meterPartsRow.domain false) (Rows.meterPartsSpec.post enc Try.prog Try.f5 false true false false) := by
  refine returnsInHanded_of_change (C := Try.checked) own started (by kernel_rfl) Try.func5
    (ChangeSpec.witness6 (enc := enc) (C := Try.checked) false ⟨#[], #[.int .i64 0, .slice none 0 0], []⟩ 8 (by kernel_rfl) (by kernel_rfl) (by kernel_rfl) (by kernel_rfl)) ?_
  intro W base args ds gs before hval0 hW hcnd _
  have hval : ∀ (j : Nat) t v, Try.f5.params[j]? = some t → args[j]? = some v → Value.okWide Try.prog W .any base t v := hval0
  have hW' := hW
  obtain ⟨p, q, hA0, hV, rfl, hfz, hnd⟩ := hW
  have hA : DataW.TrodAll enc Try.prog W 0 (fun _ => true) true Try.f5.params.toList args.toList ds p := hA0
  rw [Try.params5] at hA hval
  obtain ⟨v0, vs0, d0, ds0, p0, q0, hargs, rfl, rfl, h0, r0⟩ := trodAll_cons hA
  obtain ⟨v1, vs1, d1, ds1, p1, q1, rfl, rfl, rfl, h1, r1⟩ := trodAll_cons r0
  obtain ⟨rfl, rfl, rfl⟩ := trodAll_nil r1
  obtain rfl : args = #[v0, v1] := by cases args; simp_all
  obtain ⟨rfl, rfl⟩ := trodVars_none hV
  obtain ⟨a0, rfl, rfl, rfl, w0⟩ := open_int Try.underlying2 (hval 0 2 v0 rfl rfl) h0
  obtain ⟨a1, len1, cap1, rfl⟩ := okWide_slice Try.underlying38 (hval 1 38 v1 rfl rfl)
  have k1 := h1
  have lt1 : ∀ x ∈ p1, x.block < W.heap.size := by obtain ⟨m, hm⟩ := k1; exact DataW.trod_lt m _ _ _ hm
  obtain ⟨z1, w1⟩ : ∃ zs, IsRow .u32 W a1 len1 cap1 zs := by
    obtain ⟨fuel, hf⟩ := h1
    rcases open_ints Try.underlying38 Try.underlying39 (by kernel_rfl) hf with ⟨hcs, _⟩ | ⟨x, l, c, zs, hcs, _, hl, hm, hz, _, hcell, hwz⟩
    · simp [Value.cells] at hcs
      obtain ⟨rfl, rfl, rfl⟩ := hcs
      exact ⟨[], .inl ⟨rfl, rfl, rfl, rfl⟩⟩
    · simp [Value.cells] at hcs
      obtain ⟨rfl, rfl, rfl⟩ := hcs
      exact ⟨zs, .inr ⟨_, rfl, hl, hm, by simpa using hz, hcell, hwz⟩⟩
  clear hA0 hval0
  refine (walk a0 a1 len1 cap1 z1 W w0 w1).mono fun e W' ⟨he, bel⟩ => ?_
  subst he
  exact ⟨_, rfl, _, _, _, [], _, [], hW', trodAll_mk1 (shut_bool Try.underlying4 _), (trodAll_cons_mk (shut_int Try.underlying2 w0) (trodAll_cons_mk (Below.trod laidOut (by kernel_rfl) (of_decide_eq_true (by kernel_rfl)) k1 bel lt1) trodAll_mk0)), rfl, bel.frame _, fun h => by cases h⟩

theorem over : Rows.meterPartsRow.holds Try.pinned (OpenSpec.ofChange Rows.meterPartsSpec) :=
  OpenClaim.holds_of_wide 5 Try.f5 rfl rfl rfl rfl rfl rfl rfl ⟨rfl, rfl, rfl, rfl, rfl⟩ rfl rfl rfl rfl rfl (by kernel_rfl) Try.func5 (by kernel_rfl)
    (of_decide_eq_true (by kernel_rfl)) (by unfold Func.isWrapper; first | (rw [if_pos (by decide +kernel)]; kernel_rfl) | (rw [if_neg (by decide +kernel)]; exact ⟨rfl, rfl⟩))
    (fun os started H enc _ => lifted os started H enc)

theorem proved : Rows.MeterPartsSaid := over
#print axioms proved
end Go.Proofs.Ytcndoidicnamkaa.meterParts
