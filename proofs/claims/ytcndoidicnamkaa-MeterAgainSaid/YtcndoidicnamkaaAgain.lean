/- MeterAgain: the same again goes the same; what is refused for its size changes nothing; proved for every fuel and every charges. Conditions: none. -/
import Derived.Test.YtcndoidicnamkaaMeter
import Derived.Deep.RegionHeld3
import Derived.ProofKit
import Derived.OpenShut
import Derived.ShutString
import Derived.ChangeOld
namespace Go.Proofs.Ytcndoidicnamkaa
open Go.RowKit

set_option linter.unusedVariables false in
set_option maxRecDepth 100000 in
set_option maxHeartbeats 4000000 in
theorem again_walk (F0 : Int) (a1 : Option Addr) (len cap : Nat) (z : Nat → Int) (w : World) (hz : Row w.heap.size w a1 len (fun i => .int .i64 (z i))) :
    Calls Try.prog 7 #[.int .i64 F0, .slice a1 len cap] w fun e w' => e = .returned (.bool true) ∧ Below w.heap.size w w' := by
  have HZ := hid hz
  clear hz
  obtain ⟨F, hF⟩ : ∃ F, capF F0 = F := ⟨_, rfl⟩
  have hF0 : 0 ≤ F := by rw [← hF]; unfold capF; omega
  have hF1 : F ≤ 1099511627776 := by rw [← hF]; unfold capF; omega
  have HF := hid hF
  clear hF
  go_enter Try.func7, Try.ntmps7
  go_wp2_with fail
  refine (shown_any _).mono ?_
  rintro e w1 ⟨rfl, hB⟩
  go_wp2_with fail
  refine (new_any F0 _).mono ?_
  rintro e w2 ⟨rfl, hw⟩
  have hM : IsM w2 w1.heap.size 0 F := by rw [hw, HF.out]; exact heap_alloc_new w1 _
  have hB2 : Below w.heap.size w w2 := by rw [hw]; exact hB.alloc hB.size _
  have hg : w.heap.size ≤ w1.heap.size := hB.size
  generalize w1.heap.size = g at hM hg ⊢
  clear hw hB
  go_wp2_with fail
  refine (new_any F0 _).mono ?_
  rintro e w3 ⟨rfl, hw⟩
  have hM2 : IsM w3 w2.heap.size 0 F := by rw [hw, HF.out]; exact heap_alloc_new w2 _
  have hM1 : IsM w3 g 0 F := by rw [hw]; exact (Below.heap_alloc _ _ _ hM.lt).trans hM
  have hB3 : Below w.heap.size w w3 := by rw [hw]; exact hB2.alloc hB2.size _
  have hgg : g < w2.heap.size := hM.lt
  generalize w2.heap.size = g2 at hM2 hgg ⊢
  have hg2 : w.heap.size ≤ g2 := by omega
  clear hw hB2 hM
  go_wp2_with fail
  go_loopw [8] (fun i wr => ∃ (k : Nat) (n : Int), k ≤ len ∧ i = .int .i64 k ∧ 0 ≤ n ∧ n ≤ F + 1099511627776 ∧ IsM wr g n F ∧ IsM wr g2 n F ∧ Below w.heap.size w wr)
    (fun i _ => len - (intOf i).toNat)
  case atStart => exact ⟨0, 0, Nat.zero_le _, rfl, by omega, by omega, hM1, hM2, hB3⟩
  case round =>
    obtain ⟨k, n, hk, rfl, hn0, hn1, hm1, hm2, hb⟩ := hrel
    by_cases hlt : k < len
    · by_cases h100 : k < 100
      · obtain ⟨b, off, rfl, hbl, hc⟩ := HZ.out.below hb k hlt
        replace hc : wr.cell? ⟨b, off + k, none⟩ = some (.int .i64 (z k)) := hc
        generalize z k = x at hc
        have hcn : Hid (0 ≤ chN n F x ∧ chN n F x ≤ F + 1099511627776) := by
          unfold Hid chN
          split
          · omega
          · split <;> omega
        have hec : Hid (chE n F x = 1 ∧ chN n F x = n ∨ chE n F x = 0 ∧ chN n F x ≤ F ∨ chE n F x = 8 ∧ F < chN n F x) := by
          unfold Hid chE chN
          split
          · exact .inl ⟨rfl, rfl⟩
          · split
            · exact .inr (.inr ⟨rfl, by omega⟩)
            · split
              · exact .inr (.inr ⟨rfl, by omega⟩)
              · exact .inr (.inl ⟨rfl, by omega⟩)
        obtain ⟨E, hE⟩ : ∃ E, chE n F x = E := ⟨_, rfl⟩
        obtain ⟨N, hN⟩ : ∃ E, chN n F x = E := ⟨_, rfl⟩
        rw [hE, hN] at hec
        rw [hN] at hcn
        have HE := hid hE
        have HN := hid hN
        clear hE hN
        obtain ⟨hN0, hN1⟩ := hcn.out
        clear hcn
        have hbg : b ≠ g := by omega
        have hbg2 : b ≠ g2 := by omega
        go_wp2_with fail
        refine (charge_any g n F x _ hm1 hn0 hF1).mono ?_
        rintro e w4 ⟨rfl, h4, u4⟩
        rw [HE.out]
        rw [HN.out] at h4
        have hc4 := (u4.cell (p := ⟨b, off + k, none⟩) hbg).trans hc
        have hm4 := u4.isM (k := g2) (by omega) hm2
        go_wp2_with fail
        rcases hec.out with ⟨rfl, rfl⟩ | ⟨rfl, hE⟩ | ⟨rfl, hE⟩
        · clear hec
          by_cases hno' : F < N
          · have hno := hno'
            have d1 : decide (F < N) = true := decide_eq_true hno
            go_quiet (first
              | (go_at_call_of 14 (Value.pointer (some ⟨g, 0, none⟩)); exact Calls.quiet_of_same (now_any g N _ h4.c0))
              | (go_at_call_of 14 (Value.pointer (some ⟨g2, 0, none⟩)); exact Calls.quiet_of_same (now_any g2 N _ hm4.c0))
              | (go_at_call_of 15 (Value.pointer (some ⟨g, 0, none⟩)); exact Calls.quiet_of (over_yes g N F _ (by exact h4) hno))
              | (go_at_call_of 15 (Value.pointer (some ⟨g2, 0, none⟩)); exact Calls.quiet_of (over_yes g2 N F _ (by exact hm4) hno)))
            go_wp2_with fail
            go_roundw
            case rel =>
              exact ⟨k + 1, N, by omega, by go_num, by omega, by omega, h4.drewN _, hm4.drewN _, hb.trans ((u4.drewN _).below hg)⟩
            case measure => simp [intOf]; omega
          · have hno : N ≤ F := by omega
            clear hno'
            have d1 : decide (F < N) = false := decide_eq_false (by omega)
            go_quiet (first
              | (go_at_call_of 14 (Value.pointer (some ⟨g, 0, none⟩)); exact Calls.quiet_of_same (now_any g N _ h4.c0))
              | (go_at_call_of 14 (Value.pointer (some ⟨g2, 0, none⟩)); exact Calls.quiet_of_same (now_any g2 N _ hm4.c0))
              | (go_at_call_of 15 (Value.pointer (some ⟨g, 0, none⟩)); exact Calls.quiet_of (over_no g N F _ (by exact h4) hno))
              | (go_at_call_of 15 (Value.pointer (some ⟨g2, 0, none⟩)); exact Calls.quiet_of (over_no g2 N F _ (by exact hm4) hno)))
            go_wp2_with fail
            go_roundw
            case rel =>
              exact ⟨k + 1, N, by omega, by go_num, by omega, by omega, h4.drewN _, hm4.drewN _, hb.trans ((u4.drewN _).below hg)⟩
            case measure => simp [intOf]; omega
        · clear hec
          have hno := hE
          clear hE
          go_region_held3 (fun w' => w'.cell? ⟨b, off + k, none⟩ = some (.int .i64 x)) (first | assumption | (simp; assumption)) (first
            | (go_at_call 12; refine (charge_any g2 n F x _ (by exact hm4) hn0 hF1).mono ?_; rintro e w5 ⟨rfl, h5, u5⟩
               rw [HE.out]
               rw [HN.out] at h5
               have hc5 := (u5.cell (p := ⟨b, off + k, none⟩) hbg2).trans hc4
               have hm5 : IsM w5 g N F := u5.isM (k := g) (by omega) h4)
            | (go_at_call_of 14 (Value.pointer (some ⟨g, 0, none⟩)); refine (now_any g N _ (by exact IsM.c0 hm5)).mono ?_; rintro e w6 ⟨rfl, rfl⟩)
            | (go_at_call_of 14 (Value.pointer (some ⟨g2, 0, none⟩)); refine (now_any g2 N _ (by exact IsM.c0 h5)).mono ?_; rintro e w6 ⟨rfl, rfl⟩)
            | (go_at_call_of 15 (Value.pointer (some ⟨g, 0, none⟩)); refine (over_no g N F _ (by exact hm5) hno).mono ?_; rintro e w6 ⟨rfl, m6, rfl⟩)
            | (go_at_call_of 15 (Value.pointer (some ⟨g2, 0, none⟩)); refine (over_no g2 N F _ (by exact h5) hno).mono ?_; rintro e w6 ⟨rfl, m6, rfl⟩))
          go_wp2_with fail
          go_roundw
          case rel =>
            exact ⟨k + 1, N, by omega, by go_num, by omega, by omega, hm5.drewN _, h5.drewN _, hb.trans ((u4.below hg).drew.trans ((u5.drewN _).below hg2))⟩
          case measure => simp [intOf]; omega
        · clear hec
          have hno := hE
          clear hE
          go_region_held3 (fun w' => w'.cell? ⟨b, off + k, none⟩ = some (.int .i64 x)) (first | assumption | (simp; assumption)) (first
            | (go_at_call 12; refine (charge_any g2 n F x _ (by exact hm4) hn0 hF1).mono ?_; rintro e w5 ⟨rfl, h5, u5⟩
               rw [HE.out]
               rw [HN.out] at h5
               have hc5 := (u5.cell (p := ⟨b, off + k, none⟩) hbg2).trans hc4
               have hm5 : IsM w5 g N F := u5.isM (k := g) (by omega) h4)
            | (go_at_call_of 14 (Value.pointer (some ⟨g, 0, none⟩)); refine (now_any g N _ (by exact IsM.c0 hm5)).mono ?_; rintro e w6 ⟨rfl, rfl⟩)
            | (go_at_call_of 14 (Value.pointer (some ⟨g2, 0, none⟩)); refine (now_any g2 N _ (by exact IsM.c0 h5)).mono ?_; rintro e w6 ⟨rfl, rfl⟩)
            | (go_at_call_of 15 (Value.pointer (some ⟨g, 0, none⟩)); refine (over_yes g N F _ (by exact hm5) hno).mono ?_; rintro e w6 ⟨rfl, m6, rfl⟩)
            | (go_at_call_of 15 (Value.pointer (some ⟨g2, 0, none⟩)); refine (over_yes g2 N F _ (by exact h5) hno).mono ?_; rintro e w6 ⟨rfl, m6, rfl⟩))
          go_wp2_with fail
          go_roundw
          case rel =>
            exact ⟨k + 1, N, by omega, by go_num, by omega, by omega, hm5.drewN _, h5.drewN _, hb.trans ((u4.below hg).drew.trans ((u5.drewN _).below hg2))⟩
          case measure => simp [intOf]; omega
      · go_wp2
        go_ret
        exact ⟨rfl, hb⟩
    · go_wp2
      go_ret
      exact ⟨rfl, hb⟩

end Go.Proofs.Ytcndoidicnamkaa

namespace Go.Proofs.Ytcndoidicnamkaa.meterAgain
open Go.ChangeShapes Go.WideShapes Go.ChangeAt Go.RowKit
open Go.ChangeMaps (open_string shut_string)
set_option linter.unusedVariables false

theorem own : ownKnob Try.prog.godebug = none := by kernel_rfl
theorem laidOut : laidOutB Try.prog = true := by kernel_rfl

theorem walk (a0 : Int) (a1 : Option Addr) (len1 cap1 : Nat) (z1 : List Int) (w : World) (w0 : (Lit.int .i64 a0).wf = true) (w1 : IsRow .i64 w a1 len1 cap1 z1) :
    Calls Try.prog 7 #[.int .i64 a0, .slice a1 len1 cap1] w fun e w' => e = .returned (.bool true) ∧ Below w.heap.size w w' := by
  exact again_walk a0 a1 len1 cap1 _ w w1.row

set_option maxRecDepth 100000 in
theorem lifted (os : Os) (started : os.Started) (H : Type) (enc : TypeId × Value → H) :
    ReturnsInHanded {} Try.checked os 7 .any (Rows.meterAgainSpec.pre6 enc Try.prog Try.f7 Rows.meterAgainRow.domain false) (Rows.meterAgainSpec.post enc Try.prog Try.f7 false true false false) := by
  refine returnsInHanded_of_change (C := Try.checked) own started (by kernel_rfl) Try.func7
    (ChangeSpec.witness6 (enc := enc) (C := Try.checked) false ⟨#[], #[.int .i64 0, .slice none 0 0], []⟩ 8 (by kernel_rfl) (by kernel_rfl) (by kernel_rfl) (by kernel_rfl)) ?_
  intro W base args ds gs before hval0 hW hcnd _
  have hval : ∀ (j : Nat) t v, Try.f7.params[j]? = some t → args[j]? = some v → Value.okWide Try.prog W .any base t v := hval0
  have hW' := hW
  obtain ⟨p, q, hA0, hV, rfl, hfz, hnd⟩ := hW
  have hA : DataW.TrodAll enc Try.prog W 0 (fun _ => true) true Try.f7.params.toList args.toList ds p := hA0
  rw [Try.params7] at hA hval
  obtain ⟨v0, vs0, d0, ds0, p0, q0, hargs, rfl, rfl, h0, r0⟩ := trodAll_cons hA
  obtain ⟨v1, vs1, d1, ds1, p1, q1, rfl, rfl, rfl, h1, r1⟩ := trodAll_cons r0
  obtain ⟨rfl, rfl, rfl⟩ := trodAll_nil r1
  obtain rfl : args = #[v0, v1] := by cases args; simp_all
  obtain ⟨rfl, rfl⟩ := trodVars_none hV
  obtain ⟨a0, rfl, rfl, rfl, w0⟩ := open_int Try.underlying2 (hval 0 2 v0 rfl rfl) h0
  obtain ⟨a1, len1, cap1, rfl⟩ := okWide_slice Try.underlying22 (hval 1 22 v1 rfl rfl)
  have k1 := h1
  have lt1 : ∀ x ∈ p1, x.block < W.heap.size := by obtain ⟨m, hm⟩ := k1; exact DataW.trod_lt m _ _ _ hm
  obtain ⟨z1, w1⟩ : ∃ zs, IsRow .i64 W a1 len1 cap1 zs := by
    obtain ⟨fuel, hf⟩ := h1
    rcases open_ints Try.underlying22 Try.underlying2 (by kernel_rfl) hf with ⟨hcs, _⟩ | ⟨x, l, c, zs, hcs, _, hl, hm, hz, _, hcell, hwz⟩
    · simp [Value.cells] at hcs
      obtain ⟨rfl, rfl, rfl⟩ := hcs
      exact ⟨[], .inl ⟨rfl, rfl, rfl, rfl⟩⟩
    · simp [Value.cells] at hcs
      obtain ⟨rfl, rfl, rfl⟩ := hcs
      exact ⟨zs, .inr ⟨_, rfl, hl, hm, by simpa using hz, hcell, hwz⟩⟩
  clear hA0 hval0
  refine (walk a0 a1 len1 cap1 z1 W w0 w1).mono fun e W' ⟨he, bel⟩ => ?_
  subst he
  exact ⟨_, rfl, _, _, _, [], _, [], hW', trodAll_mk1 (shut_bool Try.underlying4 _), (trodAll_cons_mk (shut_int Try.underlying2 w0) (trodAll_cons_mk (Below.trod laidOut (by kernel_rfl) (of_decide_eq_true (by kernel_rfl)) k1 bel lt1) trodAll_mk0)), rfl, bel.frame _, fun h => by cases h⟩

theorem over : Rows.meterAgainRow.holds Try.pinned (OpenSpec.ofChange Rows.meterAgainSpec) :=
  OpenClaim.holds_of_wide 7 Try.f7 rfl rfl rfl rfl rfl rfl rfl ⟨rfl, rfl, rfl, rfl, rfl⟩ rfl rfl rfl rfl rfl (by kernel_rfl) Try.func7 (by kernel_rfl)
    (of_decide_eq_true (by kernel_rfl)) (by unfold Func.isWrapper; first | (rw [if_pos (by decide +kernel)]; kernel_rfl) | (rw [if_neg (by decide +kernel)]; exact ⟨rfl, rfl⟩))
    (fun os started H enc _ => lifted os started H enc)

theorem proved : Rows.MeterAgainSaid := over
#print axioms proved
end Go.Proofs.Ytcndoidicnamkaa.meterAgain
