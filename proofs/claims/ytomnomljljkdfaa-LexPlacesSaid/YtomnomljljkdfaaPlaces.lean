/- LexPlaces: tokens stand where they say, one behind the other, and between them stands nothing that tells, proved for any bytes. Conditions: none. -/
import Derived.Test.YtomnomljljkdfaaGaps
import Derived.Deep.RegionHeld3
import Derived.Laws.Strings
import Derived.Test.YtomnomljljkdfaaRows
import Derived.ProofKit
import Derived.OpenShut
import Derived.ShutString
import Derived.ChangeOld
import Derived.Deep.Grids
namespace Go.Proofs.Ytomnomljljkdfaa
open Go.RowKit
set_option linter.unusedVariables false
attribute [local go_sem] maxI minI

set_option maxRecDepth 100000 in
set_option maxHeartbeats 8000000 in
theorem places_walk (a0 : Option Addr) (len0 cap0 : Nat) (z : Nat → Int) (w : World) (hz : Row w a0 len0 (fun i => .int .u8 (z i))) (hcap : len0 ≤ cap0) (hm0 : cap0 ≤ 9223372036854775807) (hbz : ∀ j, j < len0 → 0 ≤ z j ∧ z j ≤ 255) :
    Calls Try.prog 5 #[.slice a0 len0 cap0] w fun e w' => e = .returned (.bool true) ∧ Below w.heap.size w w' := by
  have HZ := hid hz
  have HB := hid hbz
  clear hz hbz
  obtain ⟨n, hn⟩ : ∃ n : Nat, min (len0 : Int) 2000 = n := ⟨min len0 2000, by omega⟩
  have hn2 : n ≤ 2000 := by omega
  have hnl : n ≤ len0 := by omega
  have HN := hid hn
  go_enter Try.func5, Try.ntmps5
  go_wp2_with fail
  refine (shown_any _).mono ?_
  rintro e w1 ⟨rfl, hB⟩
  go_wp2_with fail
  clear hn
  refine (lex_toks a0 n cap0 z w1 ((HZ.out.le hnl).kept hB) (fun j hj => HB.out j (by omega)) (by omega)).mono ?_
  rintro e w2 ⟨⟨l, g, c, hl, rfl, hg, hc, hT⟩ | ⟨l, p, hl, rfl⟩, hB2⟩
  · have hll := hl.len
    have HL := hid hl
    have hb2 : Below w.heap.size w w2 := hB.trans (hB2.mono hB.size)
    have HR2 := hid ((HZ.out.le hnl).kept hb2)
    have hst : Hid (Stand n z l 0 0 false) := hid ⟨fun _ => ⟨rfl, by simpa using hl⟩, fun h => by omega⟩
    clear hl hB2 hB
    go_wp2_with fail
    go_loopw [7, 8, 9] (fun va vc vi wr => ∃ (i mm at_ : Nat) (cc : Bool), i ≤ l.length + 1 ∧ va = .int .i64 at_ ∧ vc = .bool cc ∧ vi = .int .i64 i ∧ wr = w2.drewN mm ∧ Hid (Stand n z l i at_ cc))
      (fun _ _ vi _ => l.length + 1 - (intOf vi).toNat)
    case atStart => exact ⟨0, 0, 0, false, by omega, rfl, rfl, rfl, rfl, hst⟩
    case round =>
      obtain ⟨i, mm, at_, cc, hi, rfl, rfl, rfl, rfl, hs⟩ := hrel
      clear hst
      obtain ⟨wr, hwr⟩ : ∃ wr, w2.drewN mm = wr := ⟨_, rfl⟩
      have hTr : Toks wr g z (l ++ [⟨4, n, 0⟩]) := by rw [← hwr]; exact hT.drewN _
      have HRr : Hid (Row wr a0 n (fun i => .int .u8 (z i))) := by rw [← hwr]; exact HR2.out
      have hbr : Below w.heap.size w wr := by rw [← hwr]; exact ⟨hb2.os, hb2.tape, hb2.output, hb2.size, hb2.block⟩
      rw [hwr]
      have HWR := hid hwr
      clear hwr
      by_cases hlt : i ≤ l.length
      · obtain ⟨t, E, L, ht, hhd, tf, tk, tk2, ts, ti, rfl, hgap, hstep, hat, hnext⟩ := stand_tok hs.out hlt
        obtain ⟨y0, y1, y2⟩ := hTr.at_ ht
        have hSsz : (sub z t.at_ t.size).toList.isEmpty = E := by rw [text_empty, sub_size]; exact ts
        have HG := hid hgap
        have HAT := hid hat
        have HST := hid hstep
        have HNX := hid hnext
        have HSZ : Hid ((sub z t.at_ t.size).size = t.size) := hid (sub_size _ _ _)
        have hsl : ∀ (wx : World), (Instr.slice 22 (.slice a0 n cap0) (some (.int .i64 t.at_)) (some (.int .i64 ((t.at_ : Int) + (t.size : Int)))) none).run Try.prog wx = .ok (.slice (if cap0 = t.at_ then a0 else a0.map (·.add (t.at_ * 1))) t.size (cap0 - t.at_)) wx := fun wx => slice_any a0 n cap0 t.at_ t.size (by omega) wx
        have hcvW := fun (wx : World) (hx : Row wx a0 n (fun i => .int .u8 (z i))) => conv_sub (a := a0) (n := n) (cap := cap0) (lo := t.at_) (k := t.size) (c := cap0 - t.at_) tf (by omega) hx (fun j hj => HB.out j (by omega))
        have HSL := hid hsl
        have HCW := hid hcvW
        clear hgap hat hstep hnext hs ht hsl hcvW ts
        obtain ⟨A, hA⟩ : ∃ A, (if cap0 = t.at_ then a0 else a0.map (·.add (t.at_ * 1))) = A := ⟨_, rfl⟩
        rw [hA] at HSL HCW
        have HA := hid hA
        clear hA
        generalize sub z t.at_ t.size = S at *
        generalize t.at_ = P at *
        generalize t.size = K at *
        generalize t.kind = D at *
        have hi1 : (i : Int) < (l.length : Int) + 1 := by omega
        have d1 : decide ((P : Int) < (at_ : Int)) = false := by simp; omega
        have d2 : decide (P < at_) = false := by simp; omega
        have d3 : decide ((n : Int) < (P : Int) + (K : Int)) = false := by simp; omega
        have d4 : decide (n < P + K) = false := by simp; omega
        have hSK : S.size = K := HSZ.out
        go_wp2_with fail
        go_quiet (fail)
        obtain ⟨w9, hw9⟩ : ∃ w9, wr.drewN nq = w9 := ⟨_, rfl⟩
        rw [hw9]
        have y0 : w9.cell? ⟨g, i * 3, none⟩ = some (.int .i64 D) := by rw [← hw9]; exact y0
        have y1 : w9.cell? ⟨g, i * 3 + 1, none⟩ = some (.string S) := by rw [← hw9]; exact y1
        have y2 : w9.cell? ⟨g, i * 3 + 2, none⟩ = some (.int .i64 P) := by rw [← hw9]; exact y2
        have HR9 : Hid (Row w9 a0 n (fun i => .int .u8 (z i))) := by rw [← hw9]; exact HRr.out
        have hb9 : Below w.heap.size w w9 := by rw [← hw9]; exact ⟨hbr.os, hbr.tape, hbr.output, hbr.size, hbr.block⟩
        have HW9 : Hid (∃ m9, w9 = w2.drewN m9) := hid ⟨mm + nq, by rw [← hw9, ← HWR.out, World.drewN_drewN]⟩
        clear hw9 HRr hbr hTr HWR d1 d2 d3 d4
        go_wp2_with fail
        go_loopw [8, 10] (fun vc vk wq => ∃ (k : Nat) (cc : Bool), at_ ≤ k ∧ k ≤ P ∧ vk = .int .i64 k ∧ vc = .bool cc ∧ wq = w9 ∧ Hid (Gap n z L k cc))
          (fun _ vk _ => P - (intOf vk).toNat)
        case atStart => exact ⟨at_, false, by omega, by omega, rfl, rfl, rfl, HG⟩
        case round =>
          obtain ⟨k, cc, hk0, hk1, rfl, rfl, rfl, hgp⟩ := hrel
          by_cases hkl : k < P
          · obtain ⟨hz0, hz1⟩ := HB.out k (by omega)
            obtain ⟨yb, yo, rfl, hc0⟩ := HR9.out k (by omega)
            dsimp only at hc0
            obtain ⟨hg1, hg2⟩ := HST.out k cc hgp.out hkl
            have HG1 := hid hg1
            clear hg1
            have hk2 : (k : Int) < (n : Int) := by omega
            by_cases h10 : z k = 10
            · rw [h10] at hc0
              have e1 : upd cc (z k) = false := by unfold upd; rw [if_pos h10]
              rw [e1] at HG1
              have H10 := hid h10
              clear h10 e1 hg2
              go_wp2_with fail
              go_roundw
              case rel => exact ⟨k + 1, false, by omega, by omega, by go_num, rfl, by trivial, HG1⟩
              case measure => simp [intOf]; omega
            · by_cases h35 : z k = 35
              · rw [h35] at hc0
                have e1 : upd cc (z k) = true := by unfold upd; rw [if_neg h10, if_pos h35]
                rw [e1] at HG1
                have H10 := hid h10
                have H35 := hid h35
                clear h10 h35 e1 hg2
                go_wp2_with fail
                go_roundw
                case rel => exact ⟨k + 1, true, by omega, by omega, by go_num, rfl, by trivial, HG1⟩
                case measure => simp [intOf]; omega
              · have e1 : upd cc (z k) = cc := by unfold upd; rw [if_neg h10, if_neg h35]
                rw [e1] at HG1 hg2
                rcases cc with _ | _
                · have hbl : z k = 9 ∨ z k = 13 ∨ z k = 32 := by
                    rcases hg2 with h | h
                    · cases h
                    · unfold isBlank at h
                      simp at h
                      omega
                  have H10 := hid h10
                  have H35 := hid h35
                  clear h10 h35 e1 hg2
                  rcases hbl with hbl | hbl | hbl
                  all_goals
                    rw [hbl] at hc0
                    have HBL := hid hbl
                    clear hbl
                    go_wp2_with fail
                    go_roundw
                    case rel => exact ⟨k + 1, false, by omega, by omega, by go_num, rfl, by trivial, HG1⟩
                    case measure => simp [intOf]; omega
                · have e10 : (z k == 10) = false := by simp [h10]
                  have e35 : (z k == 35) = false := by simp [h35]
                  clear h10 h35 e1 hg2
                  go_wp2_with fail
                  go_roundw
                  case rel => exact ⟨k + 1, true, by omega, by omega, by go_num, rfl, by trivial, HG1⟩
                  case measure => simp [intOf]; omega
          · obtain rfl : k = P := by omega
            have hE := HAT.out cc hgp.out
            have hsl2 : ∀ mm, (Instr.slice 22 (.slice a0 n cap0) (some (.int .i64 k)) (some (.int .i64 ((k : Int) + (K : Int)))) none).run Try.prog (wr.drewN mm) = .ok (.slice A K (cap0 - k)) (wr.drewN mm) := fun mm => HSL.out _
            have hsl3 : ∀ mm, (Instr.sliceAt 22 (.slice a0 n cap0) (some (.int .i64 k)) (some (.int .i64 ((k : Int) + (K : Int)))) none).run Try.prog (wr.drewN mm) = .ok (.slice A K (cap0 - k)) (wr.drewN mm) := fun mm => by
              rw [run_sliceAt_slice _ 22 _ _ _ _ (by kernel_rfl)]
              exact HSL.out _
            have hcv2 : ∀ mm, (convert 22 9 (.slice A K (cap0 - k))).run Try.prog (wr.drewN mm) = .ok (.string S) (wr.drewN mm) := fun mm => HCW.out _ HR9.out
            have hif : (if cap0 = k then a0 else Option.map (fun x => x.add k) a0) = A := by
              have := HA.out
              rwa [Nat.mul_one] at this
            have hnx := hid (HNX.out cc hgp.out)
            rcases cc with _ | _
            · clear hE
              go_wp2_with fail
              go_quiet (fail)
              clear hif hcv2 hsl2 hsl3
              go_wp2_with fail
              go_quiet (fail)
              go_wp2_with fail
              go_roundw
              case rel =>
                obtain ⟨m9, hm9⟩ := HW9.out
                subst hm9
                exact ⟨i + 1, _, k + K, _, by omega, by go_num, rfl, by go_num, by rw [World.drewN_drewN], hnx⟩
              case measure => simp [intOf]; omega
            · obtain rfl := hE rfl
              go_wp2_with fail
              go_quiet (fail)
              clear hif hcv2 hsl2 hsl3
              go_wp2_with fail
              go_quiet (fail)
              go_wp2_with fail
              go_roundw
              case rel =>
                obtain ⟨m9, hm9⟩ := HW9.out
                subst hm9
                exact ⟨i + 1, _, k + K, _, by omega, by go_num, rfl, by go_num, by rw [World.drewN_drewN], hnx⟩
              case measure => simp [intOf]; omega
      · obtain rfl : i = l.length + 1 := by omega
        obtain rfl : at_ = n := hs.out.2 rfl
        obtain ⟨_, _, x2⟩ := hTr.at_ (i := l.length) (t := ⟨4, at_, 0⟩) (by simp)
        dsimp only at x2
        clear hs
        go_wp2_with fail
        go_ret
        exact ⟨rfl, hbr⟩
  · have hp := hl.wrong_lt p rfl
    have hp2 : (p : Int) < (n : Int) := by omega
    clear hl
    go_wp2_with fail
    go_ret
    exact ⟨rfl, hB.trans (hB2.mono hB.size)⟩
end Go.Proofs.Ytomnomljljkdfaa

namespace Go.Proofs.Ytomnomljljkdfaa.lexPlaces
open Go.ChangeShapes Go.WideShapes Go.ChangeAt Go.RowKit
open Go.ChangeMaps (open_string shut_string)
set_option linter.unusedVariables false

theorem own : ownKnob Try.prog.godebug = none := by kernel_rfl
theorem laidOut : laidOutB Try.prog = true := by kernel_rfl

theorem walk (a0 : Option Addr) (len0 cap0 : Nat) (z0 : Nat → Int) (w : World) (w0 : Row w a0 len0 (fun i => .int .u8 (z0 i)) ∧ len0 ≤ cap0 ∧ cap0 ≤ maxLen ∧ ∀ j, j < len0 → (Lit.int .u8 (z0 j)).wf = true) :
    Calls Try.prog 5 #[.slice a0 len0 cap0] w fun e w' => e = .returned (.bool true) ∧ Below w.heap.size w w' := by
  exact places_walk a0 len0 cap0 z0 w w0.1 w0.2.1 (by have := w0.2.2.1; unfold maxLen at this; omega) (fun j hj => u8_wf (w0.2.2.2 j hj))

set_option maxRecDepth 100000 in
theorem lifted (os : Os) (started : os.Started) (H : Type) (enc : TypeId × Value → H) :
    ReturnsInHanded {} Try.checked os 5 .any (Rows.lexPlacesSpec.pre6 enc Try.prog Try.f5 Rows.lexPlacesRow.domain false) (Rows.lexPlacesSpec.post enc Try.prog Try.f5 false true false false) := by
  refine returnsInHanded_of_change (C := Try.checked) own started (by kernel_rfl) Try.func5
    (ChangeSpec.witness6 (enc := enc) (C := Try.checked) false ⟨#[], #[.slice none 0 0], []⟩ 8 (by kernel_rfl) (by kernel_rfl) (by kernel_rfl) (by kernel_rfl)) ?_
  intro W base args ds gs before hval0 hW hcnd _
  have hval : ∀ (j : Nat) t v, Try.f5.params[j]? = some t → args[j]? = some v → Value.okWide Try.prog W .any base t v := hval0
  have hW' := hW
  obtain ⟨p, q, hA0, hV, rfl, hfz, hnd⟩ := hW
  have hA : DataW.TrodAll enc Try.prog W 0 (fun _ => true) true Try.f5.params.toList args.toList ds p := hA0
  rw [Try.params5] at hA hval
  obtain ⟨v0, vs0, d0, ds0, p0, q0, hargs, rfl, rfl, h0, r0⟩ := trodAll_cons hA
  obtain ⟨rfl, rfl, rfl⟩ := trodAll_nil r0
  obtain rfl : args = #[v0] := by cases args; simp_all
  obtain ⟨rfl, rfl⟩ := trodVars_none hV
  obtain ⟨a0, len0, cap0, rfl⟩ := okWide_slice Try.underlying22 (hval 0 22 v0 rfl rfl)
  have k0 := h0
  have lt0 : ∀ x ∈ p0, x.block < W.heap.size := by obtain ⟨m, hm⟩ := k0; exact DataW.trod_lt m _ _ _ hm
  obtain ⟨z0, w0⟩ : ∃ z0 : Nat → Int, Row W a0 len0 (fun i => .int .u8 (z0 i)) ∧ len0 ≤ cap0 ∧ cap0 ≤ maxLen ∧ ∀ j, j < len0 → (Lit.int .u8 (z0 j)).wf = true := by
    obtain ⟨fuel, hf⟩ := h0
    rcases open_ints Try.underlying22 Try.underlying5 (by kernel_rfl) hf with ⟨hcs, _⟩ | ⟨x, l, c, zs, hcs, _, hl, hm, hz, _, hcell, hwz⟩
    · simp [Value.cells] at hcs
      obtain ⟨rfl, rfl, rfl⟩ := hcs
      exact ⟨fun _ => 0, Row.nil, Nat.le_refl _, Nat.zero_le _, fun j hj => absurd hj (Nat.not_lt_zero j)⟩
    · simp [Value.cells] at hcs
      obtain ⟨rfl, rfl, rfl⟩ := hcs
      exact ⟨fun j => zs.getD j 0, Row.of_add hl (fun j hj => hcell j (by simp at hz; omega)), hl, hm, fun j hj => getD_all hwz (by simp at hz; omega)⟩
  clear hA0 hval0
  refine (walk a0 len0 cap0 z0 W w0).mono fun e W' ⟨he, bel⟩ => ?_
  subst he
  exact ⟨_, rfl, _, _, _, [], _, [], hW', trodAll_mk1 (shut_bool Try.underlying4 _), (trodAll_cons_mk (Below.trod laidOut (by kernel_rfl) (of_decide_eq_true (by kernel_rfl)) k0 bel lt0) trodAll_mk0), rfl, bel.frame _, fun h => by cases h⟩

theorem over : Rows.lexPlacesRow.holds Try.pinned (OpenSpec.ofChange Rows.lexPlacesSpec) :=
  OpenClaim.holds_of_wide 5 Try.f5 rfl rfl rfl rfl rfl rfl rfl ⟨rfl, rfl, rfl, rfl, rfl⟩ rfl rfl rfl rfl rfl (by kernel_rfl) Try.func5 (by kernel_rfl)
    (of_decide_eq_true (by kernel_rfl)) (by unfold Func.isWrapper; first | (rw [if_pos (by decide +kernel)]; kernel_rfl) | (rw [if_neg (by decide +kernel)]; exact ⟨rfl, rfl⟩))
    (fun os started H enc _ => lifted os started H enc)

theorem proved : Rows.LexPlacesSaid := over
#print axioms proved
end Go.Proofs.Ytomnomljljkdfaa.lexPlaces

