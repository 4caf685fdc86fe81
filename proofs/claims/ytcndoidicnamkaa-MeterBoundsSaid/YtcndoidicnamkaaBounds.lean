/- MeterBounds: the clock never goes back, nor above what it may be, proved for every fuel and every charges. Conditions: none. -/
import Derived.Test.YtcndoidicnamkaaMeter
import Derived.ProofKit
import Derived.OpenShut
import Derived.ShutString
import Derived.ChangeOld
namespace Go.Proofs.Ytcndoidicnamkaa
open Go.RowKit
attribute [local go_sem] maxI minI

set_option maxRecDepth 100000 in
set_option maxHeartbeats 8000000 in
theorem bounds_walk (F0 : Int) (a1 : Option Addr) (len cap : Nat) (z : Nat → Int) (w : World) (hz : Row w.heap.size w a1 len (fun i => .int .i64 (z i))) (hl : len ≤ 9223372036854775807) :
    Calls Try.prog 4 #[.int .i64 F0, .slice a1 len cap] w fun e w' => e = .returned (.bool true) ∧ Below w.heap.size w w' := by
  have HZ := hid hz
  clear hz
  obtain ⟨F, hF⟩ : ∃ F, capF F0 = F := ⟨_, rfl⟩
  have hF0 : 0 ≤ F := by rw [← hF]; unfold capF; omega
  have hF1 : F ≤ 1099511627776 := by rw [← hF]; unfold capF; omega
  have HF := hid hF
  have hF' : min (max F0 0) 1099511627776 = F := hF
  clear hF
  go_enter Try.func4, Try.ntmps4
  go_wp2_with fail
  refine (shown_any _).mono ?_
  rintro e w1 ⟨rfl, hB⟩
  go_wp2_with fail
  refine (new_any F0 _).mono ?_
  rintro e w2 ⟨rfl, hw⟩
  have hM : IsM w2 w1.heap.size 0 F := by rw [hw, HF.out]; exact heap_alloc_new w1 _
  have hB2 : Below w.heap.size w w2 := by rw [hw]; exact hB.alloc hB.size _
  have hg : w.heap.size ≤ w1.heap.size := hB.size
  generalize w1.heap.size = g at hM hg ⊢
  clear hw hB
  go_wp2_with fail
  go_loopw [8, 9, 10] (fun was ov i wr => ∃ (k : Nat) (n : Int) (o : Bool), k ≤ len ∧ i = .int .i64 k ∧ was = .int .i64 n ∧ ov = .bool o ∧ Hid (o = decide (F < n)) ∧ IsM wr g n F ∧ 0 ≤ n ∧ n ≤ F + 1099511627776 ∧ Below w.heap.size w wr)
    (fun _ _ i _ => len - (intOf i).toNat)
  case atStart => exact ⟨0, 0, false, Nat.zero_le _, rfl, rfl, rfl, (decide_eq_false (by omega)).symm, hM, by omega, by omega, hB2⟩
  case round =>
    obtain ⟨k, n, o, hk, rfl, rfl, rfl, ho, hm, hn0, hn1, hb⟩ := hrel
    by_cases hlt : k < len
    · obtain ⟨b, off, rfl, hbl, hc⟩ := HZ.out.below hb k hlt
      replace hc : wr.cell? ⟨b, off + k, none⟩ = some (.int .i64 (z k)) := hc
      by_cases h200 : k < 200
      · generalize hx : z k = x at hc
        clear hx
        have key : (x < 0 ∧ n ≤ F ∧ o = false ∧ Hid (chE n F x = 1) ∧ Hid (chN n F x = n)) ∨ (x < 0 ∧ F < n ∧ o = true ∧ Hid (chE n F x = 1) ∧ Hid (chN n F x = n)) ∨
          (1099511627776 < x ∧ n ≤ F ∧ o = false ∧ Hid (chE n F x = 1) ∧ Hid (chN n F x = n)) ∨ (1099511627776 < x ∧ F < n ∧ o = true ∧ Hid (chE n F x = 1) ∧ Hid (chN n F x = n)) ∨
          ((0 ≤ x ∧ x ≤ 1099511627776) ∧ F < n ∧ o = true ∧ Hid (chE n F x = 8) ∧ Hid (chN n F x = n)) ∨
          ((0 ≤ x ∧ x ≤ 1099511627776 ∧ F < n + x) ∧ n ≤ F ∧ o = false ∧ Hid (chE n F x = 8) ∧ Hid (chN n F x = n + x)) ∨
          ((0 ≤ x ∧ x ≤ 1099511627776 ∧ n + x ≤ F) ∧ n ≤ F ∧ o = false ∧ Hid (chE n F x = 0) ∧ Hid (chN n F x = n + x)) := by
          have ho := ho.out
          unfold Hid chE chN
          by_cases c1 : F < n
          · rw [decide_eq_true c1] at ho
            subst ho
            by_cases c2 : x < 0
            · exact .inr (.inl ⟨c2, c1, rfl, if_pos (.inl c2), if_pos (.inl c2)⟩)
            · by_cases c3 : 1099511627776 < x
              · exact .inr (.inr (.inr (.inl ⟨c3, c1, rfl, if_pos (.inr c3), if_pos (.inr c3)⟩)))
              · refine .inr (.inr (.inr (.inr (.inl ⟨by omega, c1, rfl, ?_, ?_⟩))))
                · rw [if_neg (by omega), if_pos c1]
                · rw [if_neg (by omega), if_pos c1]
          · rw [decide_eq_false c1] at ho
            subst ho
            have c1' : n ≤ F := by omega
            by_cases c2 : x < 0
            · exact .inl ⟨c2, c1', rfl, if_pos (.inl c2), if_pos (.inl c2)⟩
            · by_cases c3 : 1099511627776 < x
              · exact .inr (.inr (.inl ⟨c3, c1', rfl, if_pos (.inr c3), if_pos (.inr c3)⟩))
              · by_cases c4 : F < n + x
                · refine .inr (.inr (.inr (.inr (.inr (.inl ⟨by omega, c1', rfl, ?_, ?_⟩)))))
                  · rw [if_neg (by omega), if_neg c1, if_pos c4]
                  · rw [if_neg (by omega), if_neg c1]
                · refine .inr (.inr (.inr (.inr (.inr (.inr ⟨by omega, c1', rfl, ?_, ?_⟩)))))
                  · rw [if_neg (by omega), if_neg c1, if_neg c4]
                  · rw [if_neg (by omega), if_neg c1]
        have hgb : b ≠ g := by omega
        rcases key with ⟨k1, k2, rfl, hE, hN⟩ | ⟨k1, k2, rfl, hE, hN⟩ | ⟨k1, k2, rfl, hE, hN⟩ | ⟨k1, k2, rfl, hE, hN⟩ | ⟨⟨k1, k3⟩, k2, rfl, hE, hN⟩ | ⟨⟨k1, k3, k4⟩, k2, rfl, hE, hN⟩ | ⟨⟨k1, k3, k4⟩, k2, rfl, hE, hN⟩
        all_goals
          go_wp2_with fail
          refine (charge_any g n F x _ hm (by omega) (by omega)).mono ?_
          rintro e w3 ⟨rfl, h3, u3⟩
          rw [hE.out]
          rw [hN.out] at h3
          have hc3 := (u3.cell (p := ⟨b, off + k, none⟩) hgb).trans hc
          go_wp2_with fail
          refine (now_any g _ _ h3.c0).mono ?_
          rintro e w4 ⟨rfl, rfl⟩
          go_wp2_with fail
          first
            | (refine (over_yes g _ F _ h3 (by omega)).mono ?_
               rintro e w5 ⟨rfl, m5, rfl⟩
               go_wp2_with fail
               refine (over_yes g _ F _ (h3.drewN m5) (by omega)).mono ?_)
            | (refine (over_no g _ F _ h3 (by omega)).mono ?_
               rintro e w5 ⟨rfl, m5, rfl⟩
               go_wp2_with fail
               refine (over_no g _ F _ (h3.drewN m5) (by omega)).mono ?_)
          all_goals
            rintro e w6 ⟨rfl, m6, rfl⟩
            go_wp2_with fail
            go_roundw
            case rel =>
              exact ⟨k + 1, _, _, by omega, by go_num, rfl, rfl, (by first | exact (decide_eq_true (by omega)).symm | exact (decide_eq_false (by omega)).symm), h3.drewN _, by omega, by omega, hb.trans ((u3.drewN _).below hg)⟩
            case measure => simp [intOf]; omega
      · go_wp2
        go_ret
        exact ⟨rfl, hb⟩
    · go_wp2
      go_ret
      exact ⟨rfl, hb⟩
end Go.Proofs.Ytcndoidicnamkaa

namespace Go.Proofs.Ytcndoidicnamkaa.meterBounds
open Go.ChangeShapes Go.WideShapes Go.ChangeAt Go.RowKit
open Go.ChangeMaps (open_string shut_string)
set_option linter.unusedVariables false

theorem own : ownKnob Try.prog.godebug = none := by kernel_rfl
theorem laidOut : laidOutB Try.prog = true := by kernel_rfl

theorem walk (a0 : Int) (a1 : Option Addr) (len1 cap1 : Nat) (z1 : List Int) (w : World) (w0 : (Lit.int .i64 a0).wf = true) (w1 : IsRow .i64 w a1 len1 cap1 z1) :
    Calls Try.prog 4 #[.int .i64 a0, .slice a1 len1 cap1] w fun e w' => e = .returned (.bool true) ∧ Below w.heap.size w w' := by
  exact bounds_walk a0 a1 len1 cap1 _ w w1.row w1.len_le

set_option maxRecDepth 100000 in
theorem lifted (os : Os) (started : os.Started) (H : Type) (enc : TypeId × Value → H) :
    ReturnsInHanded {} Try.checked os 4 .any (Rows.meterBoundsSpec.pre6 enc Try.prog Try.f4 Rows.meterBoundsRow.domain false) (Rows.meterBoundsSpec.post enc Try.prog Try.f4 false true false false) := by
  refine returnsInHanded_of_change (C := Try.checked) own started (by kernel_rfl) Try.func4
    (ChangeSpec.witness6 (enc := enc) (C := Try.checked) false ⟨#[], #[.int .i64 0, .slice none 0 0], []⟩ 8 (by kernel_rfl) (by kernel_rfl) (by kernel_rfl) (by kernel_rfl)) ?_
  intro W base args ds gs before hval0 hW hcnd _
  have hval : ∀ (j : Nat) t v, Try.f4.params[j]? = some t → args[j]? = some v → Value.okWide Try.prog W .any base t v := hval0
  have hW' := hW
  obtain ⟨p, q, hA0, hV, rfl, hfz, hnd⟩ := hW
  have hA : DataW.TrodAll enc Try.prog W 0 (fun _ => true) true Try.f4.params.toList args.toList ds p := hA0
  rw [Try.params4] at hA hval
  obtain ⟨v0, vs0, d0, ds0, p0, q0, hargs, rfl, rfl, h0, r0⟩ := trodAll_cons hA
  obtain ⟨v1, vs1, d1, ds1, p1, q1, rfl, rfl, rfl, h1, r1⟩ := trodAll_cons r0
  obtain ⟨rfl, rfl, rfl⟩ := trodAll_nil r1
  obtain rfl : args = #[v0, v1] := by cases args; simp_all
  obtain ⟨rfl, rfl⟩ := trodVars_none hV
  obtain ⟨a0, rfl, rfl, rfl, w0⟩ := open_int Try.underlying2 (hval 0 2 v0 rfl rfl) h0
  obtain ⟨a1, len1, cap1, rfl⟩ := okWide_slice Try.underlying22 (hval 1 22 v1 rfl rfl)
  have k1 := h1
  have lt1 : ∀ x ∈ p1, x.block < W.heap.size := by obtain ⟨m, hm⟩ := k1; exact DataW.trod_lt m _ _ _ hm
  obtain ⟨z1, w1⟩ : ∃ zs, IsRow .i64 W a1 len1 cap1 zs := by
    obtain ⟨fuel, hf⟩ := h1
    rcases open_ints Try.underlying22 Try.underlying2 (by kernel_rfl) hf with ⟨hcs, _⟩ | ⟨x, l, c, zs, hcs, _, hl, hm, hz, _, hcell, hwz⟩
    · simp [Value.cells] at hcs
      obtain ⟨rfl, rfl, rfl⟩ := hcs
      exact ⟨[], .inl ⟨rfl, rfl, rfl, rfl⟩⟩
    · simp [Value.cells] at hcs
      obtain ⟨rfl, rfl, rfl⟩ := hcs
      exact ⟨zs, .inr ⟨_, rfl, hl, hm, by simpa using hz, hcell, hwz⟩⟩
  clear hA0 hval0
  refine (walk a0 a1 len1 cap1 z1 W w0 w1).mono fun e W' ⟨he, bel⟩ => ?_
  subst he
  exact ⟨_, rfl, _, _, _, [], _, [], hW', trodAll_mk1 (shut_bool Try.underlying4 _), (trodAll_cons_mk (shut_int Try.underlying2 w0) (trodAll_cons_mk (Below.trod laidOut (by kernel_rfl) (of_decide_eq_true (by kernel_rfl)) k1 bel lt1) trodAll_mk0)), rfl, bel.frame _, fun h => by cases h⟩

theorem over : Rows.meterBoundsRow.holds Try.pinned (OpenSpec.ofChange Rows.meterBoundsSpec) :=
  OpenClaim.holds_of_wide 4 Try.f4 rfl rfl rfl rfl rfl rfl rfl ⟨rfl, rfl, rfl, rfl, rfl⟩ rfl rfl rfl rfl rfl (by kernel_rfl) Try.func4 (by kernel_rfl)
    (of_decide_eq_true (by kernel_rfl)) (by unfold Func.isWrapper; first | (rw [if_pos (by decide +kernel)]; kernel_rfl) | (rw [if_neg (by decide +kernel)]; exact ⟨rfl, rfl⟩))
    (fun os started H enc _ => lifted os started H enc)

theorem proved : Rows.MeterBoundsSaid := over
#print axioms proved
end Go.Proofs.Ytcndoidicnamkaa.meterBounds
