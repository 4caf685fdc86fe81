/- ProfileRuns: a value that comes again and again is counted; another one begins anew; proved for any values and any other one. Conditions: none. -/
import Derived.Test.YtemdojckeghbjaaMore
import Derived.ProofKit
import Derived.OpenShut
import Derived.ShutString
import Derived.ChangeOld
namespace Go.Proofs.Ytemdojckeghbjaa
open Go.RowKit
set_option linter.unusedVariables false
attribute [local go_sem] maxI minI

/-- What a profile of two functions, the second of two parameters, holds behind k calls of the second: the first parameter was last 'v', n times in a row; the other one is always 'o'. -/
def RunRel (st : Nat → Nat → Int) (k : Nat) (z : Nat → Int) (n : Nat) (o : Int) : Prop :=
  st 0 1 = 0 ∧ st 1 0 = 2 ∧ st 1 1 = min (k : Int) 1000 ∧ (k = 0 ∧ n = 0 ∧ st 1 2 = 0 ∧ st 1 4 = 0 ∧ st 1 5 = 0 ∧ st 1 3 = 0 ∨ 0 < k ∧ 0 < n ∧ n ≤ k ∧ st 1 2 = z (k - 1) ∧ st 1 4 = o ∧ st 1 3 = min (n : Int) 1000 ∧ st 1 5 = min (k : Int) 1000)
def two (a b : Int) : Nat → Int := fun j => if j = 0 then a else b
def nextN (k : Nat) (z : Nat → Int) (n : Nat) : Nat := if 0 < k ∧ z k = z (k - 1) then n + 1 else 1
theorem RunRel.step {st : Nat → Nat → Int} {k : Nat} {z : Nat → Int} {n : Nat} {o : Int} (h : RunRel st k z n o) : RunRel (after st 1 (two (z k) o) 2) (k + 1) z (nextN k z n) o := by
  obtain ⟨h0, h1, h2, h3⟩ := h
  have v0 := after_val st 1 (two (z k) o) 2 (k := 0) (by omega)
  have v1 := after_val st 1 (two (z k) o) 2 (k := 1) (by omega)
  have t0 := after_tim st 1 (two (z k) o) 2 (k := 0) (by omega)
  have t1 := after_tim st 1 (two (z k) o) 2 (k := 1) (by omega)
  simp only [Nat.zero_mul, Nat.add_zero, Nat.one_mul, Nat.reduceAdd, two, if_true, Nat.one_ne_zero, if_false] at v0 v1 t0 t1
  refine ⟨?_, ?_, ?_, .inr ⟨by omega, ?_, ?_, v0, v1, ?_, ?_⟩⟩
  · rw [after_other _ _ _ _ (by omega)]; exact h0
  · rw [after_par]; exact h1
  · rw [after_calls, h2]; omega
  · unfold nextN; split <;> omega
  · unfold nextN
    rcases h3 with ⟨rfl, _⟩ | ⟨_, _, hn, _⟩
    · rw [if_neg (by omega)]; omega
    · split <;> omega
  · rw [t0]
    unfold nextN
    rcases h3 with ⟨rfl, rfl, e2, e4, e5, e3⟩ | ⟨hk, _, hn, e2, e4, e3, e5⟩
    · have hn : ¬ (0 < 0 ∧ z 0 = z (0 - 1)) := fun h => absurd h.1 (Nat.lt_irrefl 0)
      rw [e2, e3, if_neg hn]; split <;> omega
    · rw [e2, e3]
      by_cases he : z (k - 1) = z k
      · rw [if_pos he, if_pos ⟨hk, he.symm⟩]; omega
      · rw [if_neg he, if_neg (fun h => he h.2.symm)]; omega
  · rw [t1]
    rcases h3 with ⟨rfl, rfl, e2, e4, e5, e3⟩ | ⟨hk, _, hn, e2, e4, e3, e5⟩
    · rw [e4, e5]; split <;> omega
    · rw [e4, e5, if_pos rfl]; omega


set_option maxRecDepth 100000 in
set_option maxHeartbeats 4000000 in
theorem runs_walk (a0 : Option Addr) (len cap0 : Nat) (z : Nat → Int) (o : Int) (w : World) (hz : Row w a0 len (fun i => .int .i64 (z i))) :
    Calls Try.prog 4 #[.slice a0 len cap0, .int .i64 o] w fun e w' => e = .returned (.bool true) ∧ Below w.heap.size w w' := by
  have HZ := hid hz
  clear hz
  go_enter Try.func4, Try.ntmps4
  go_wp2_with fail
  refine (shown_any _).mono ?_
  rintro e w1 ⟨rfl, hB⟩
  go_wp2_with fail
  refine (new_own 2 _ (two 0 2) w1 (by omega) (fun i hi => by match i, hi with | 0, _ => rfl | 1, _ => rfl)).mono ?_
  rintro e w2 ⟨gp, gl, cap, rfl, hP, hgp, hgl, hB2⟩
  have hs1 := hB.size
  have hB := hB.trans (hB2.mono hB.size)
  have hgp0 : w.heap.size ≤ gp := Nat.le_trans hs1 hgp
  go_wp2_with fail
  go_loopw [7, 8] (fun c i wr => ∃ (k n : Nat) (st : Nat → Nat → Int), k ≤ len ∧ k ≤ 200 ∧ n ≤ k ∧ i = .int .i64 k ∧ c = .int .i64 n ∧ IsP wr gp gl 2 cap st ∧ Hid (RunRel st k z n o) ∧ Below w.heap.size w wr)
    (fun _ i _ => len - (intOf i).toNat)
  case atStart => exact ⟨0, 0, _, Nat.zero_le _, by omega, by omega, rfl, rfl, hP, ⟨rfl, rfl, rfl, .inl ⟨rfl, rfl, rfl, rfl, rfl, rfl⟩⟩, hB⟩
  case round =>
    obtain ⟨k, n, st, hk, hk2, hnk, rfl, rfl, hp, hr, hb⟩ := hrel
    by_cases hlt : k < len
    · by_cases h200 : k < 200
      · obtain ⟨b, off, rfl, hc0⟩ := HZ.out k hlt
        have hbs : b < w.heap.size := World.block_lt_of_cell? _ _ hc0
        have hc : wr.cell? ⟨b, off + k, none⟩ = some (.int .i64 (z k)) := (hb.cell (p := ⟨b, off + k, none⟩) hbs).trans hc0
        clear hc0
        go_wp2_with fail
        have hbl : b ≠ gl := by omega
        refine (see_ok gp gl 2 cap _ 1 1 rfl (some ⟨wr.heap.size, 0, none⟩) 2 2 (two (z k) o) _ (hp.alloc _) (by omega) (by rw [hr.out.2.1]; rfl) (Row.of_blk (Blk.new wr 2 _) (fun i hi => by match i, hi with | 0, _ => rfl | 1, _ => rfl)) ?_ (by omega)).mono ?_
        · intro b' off' e
          have := hp.gl_lt (by omega)
          injection e with e
          injection e with e
          omega
        rintro e w3 ⟨rfl, hp3, hU⟩
        have hb3 := hb.trans (hU.below_alloc (by omega) hb.size)
        have hr3 : Hid (RunRel (after st 1 (two (z k) o) 2) (k + 1) z (nextN k z n) o) := hr.out.step
        generalize after st 1 (two (z k) o) 2 = st3 at hp3 hr3
        have hn0 : Hid (nextN k z n ≤ k + 1 ∧ 0 < nextN k z n) := by unfold Hid nextN; split <;> omega
        obtain ⟨n', hn'⟩ : ∃ n', nextN k z n = n' := ⟨_, rfl⟩
        rw [hn'] at hr3 hn0
        obtain ⟨hn'1, hn'2⟩ := hn0.out
        obtain ⟨_, q1, q2, q3⟩ := hr3.out
        rcases q3 with ⟨q3, _⟩ | ⟨_, _, _, q4, q5, q6, q7⟩
        · omega
        have HV0 : Hid (st3 1 (2 + 0 * 2) = z k) := q4
        have HT0 : Hid (st3 1 (2 + 0 * 2 + 1) = n') := q6.trans (by omega)
        have HV1 : Hid (st3 1 (2 + 1 * 2) = o) := q5
        have HT1 : Hid (st3 1 (2 + 1 * 2 + 1) = (k : Int) + 1) := q7.trans (by omega)
        have HC : Hid (st3 1 1 = (k : Int) + 1) := q2.trans (by omega)
        clear q1 q2 q4 q5 q6 q7
        have HN := hid hn'
        clear hn' hn0
        have hc3 : w3.cell? ⟨b, off + k, none⟩ = some (.int .i64 (z k)) := by
          rw [← hc, hb3.cell (p := ⟨b, off + k, none⟩) hbs, hb.cell (p := ⟨b, off + k, none⟩) hbs]
        by_cases hk0 : 0 < k
        · obtain ⟨b', off', e, hc1⟩ := HZ.out (k - 1) (by omega)
          injection e with e
          injection e with e e'
          subst e e'
          have hc4 : w3.cell? ⟨b, off + (k - 1), none⟩ = some (.int .i64 (z (k - 1))) := (hb3.cell (p := ⟨b, off + (k - 1), none⟩) hbs).trans hc1
          clear hc1
          have hk1 : decide ((k : Int) > 0) = true := by simp; omega
          have hk1' : 0 < (k : Int) := by omega
          have hk3 : (0 : Int) ≤ (k : Int) - 1 := by omega
          have hk4 : (k : Int) - 1 < (len : Int) := by omega
          have hk5 : ((k : Int) - 1).toNat = k - 1 := by omega
          by_cases hzz : z k = z (k - 1)
          · have hq : (z k == z (k - 1)) = true := by simp [hzz]
            have hnn : n' = n + 1 := by rw [← HN.out]; unfold nextN; rw [if_pos ⟨hk0, hzz⟩]
            have HQ := hid hzz
            clear hzz
            subst hnn
            have HT0 : Hid (st3 1 (2 + 0 * 2 + 1) = (n : Int) + 1) := HT0
            go_wp2_with fail
            go_quiet (fail)
            go_wp2_with fail
            refine (value_at gp gl 2 cap _ 1 1 rfl 0 0 rfl (z k) (↑n + 1) _ (hp3.drewN _) (by omega) (by rw [hr3.out.2.1]; decide) HV0.out HT0.out).mono ?_
            rintro e w5 ⟨rfl, m5, rfl⟩
            go_wp2_with fail
            refine (value_at gp gl 2 cap _ 1 1 rfl 1 1 rfl o (↑k + 1) _ (hp3.drewN _) (by omega) (by rw [hr3.out.2.1]; decide) HV1.out HT1.out).mono ?_
            rintro e w6 ⟨rfl, m6, rfl⟩
            go_wp2_with fail
            refine (calls_at gp gl 2 cap _ 1 1 rfl (↑k + 1) _ (hp3.drewN _) (by omega) HC.out).mono ?_
            rintro e w7 ⟨rfl, rfl⟩
            go_wp2_with fail
            go_roundw
            case rel => exact ⟨k + 1, n + 1, _, by omega, by omega, hn'1, by go_num, by first | rfl | go_num, hp3.drewN _, hr3, ⟨hb3.os, hb3.tape, hb3.output, hb3.size, hb3.block⟩⟩
            case measure => simp [intOf]; omega
          · have hq : (z k == z (k - 1)) = false := by simp [hzz]
            have hnn : n' = 1 := by rw [← HN.out]; unfold nextN; rw [if_neg (fun h => hzz h.2)]
            clear hzz
            subst hnn
            have HT0 : Hid (st3 1 (2 + 0 * 2 + 1) = 1) := HT0
            go_wp2_with fail
            go_quiet (fail)
            go_wp2_with fail
            refine (value_at gp gl 2 cap _ 1 1 rfl 0 0 rfl (z k) (1) _ (hp3.drewN _) (by omega) (by rw [hr3.out.2.1]; decide) HV0.out HT0.out).mono ?_
            rintro e w5 ⟨rfl, m5, rfl⟩
            go_wp2_with fail
            refine (value_at gp gl 2 cap _ 1 1 rfl 1 1 rfl o (↑k + 1) _ (hp3.drewN _) (by omega) (by rw [hr3.out.2.1]; decide) HV1.out HT1.out).mono ?_
            rintro e w6 ⟨rfl, m6, rfl⟩
            go_wp2_with fail
            refine (calls_at gp gl 2 cap _ 1 1 rfl (↑k + 1) _ (hp3.drewN _) (by omega) HC.out).mono ?_
            rintro e w7 ⟨rfl, rfl⟩
            go_wp2_with fail
            go_roundw
            case rel => exact ⟨k + 1, 1, _, by omega, by omega, hn'1, by go_num, by first | rfl | go_num, hp3.drewN _, hr3, ⟨hb3.os, hb3.tape, hb3.output, hb3.size, hb3.block⟩⟩
            case measure => simp [intOf]; omega
        · have hk1 : decide ((k : Int) > 0) = false := by simp; omega
          have hnn : n' = 1 := by rw [← HN.out]; unfold nextN; rw [if_neg (fun h => hk0 h.1)]
          subst hnn
          have hk9 : (k : Int) ≤ 0 := by omega
          have HT0 : Hid (st3 1 (2 + 0 * 2 + 1) = 1) := HT0
          go_wp2_with fail
          go_quiet (fail)
          go_wp2_with fail
          refine (value_at gp gl 2 cap _ 1 1 rfl 0 0 rfl (z k) (1) _ (hp3.drewN _) (by omega) (by rw [hr3.out.2.1]; decide) HV0.out HT0.out).mono ?_
          rintro e w5 ⟨rfl, m5, rfl⟩
          go_wp2_with fail
          refine (value_at gp gl 2 cap _ 1 1 rfl 1 1 rfl o (↑k + 1) _ (hp3.drewN _) (by omega) (by rw [hr3.out.2.1]; decide) HV1.out HT1.out).mono ?_
          rintro e w6 ⟨rfl, m6, rfl⟩
          go_wp2_with fail
          refine (calls_at gp gl 2 cap _ 1 1 rfl (↑k + 1) _ (hp3.drewN _) (by omega) HC.out).mono ?_
          rintro e w7 ⟨rfl, rfl⟩
          go_wp2_with fail
          go_roundw
          case rel => exact ⟨k + 1, 1, _, by omega, by omega, hn'1, by go_num, by first | rfl | go_num, hp3.drewN _, hr3, ⟨hb3.os, hb3.tape, hb3.output, hb3.size, hb3.block⟩⟩
          case measure => simp [intOf]; omega
      · have HR := hr
        go_wp2_with fail
        refine (calls_at gp gl 2 cap _ 0 0 rfl 0 _ hp (by omega) hr.out.1).mono ?_
        rintro e w7 ⟨rfl, rfl⟩
        go_wp2_with fail
        go_ret
        exact ⟨rfl, hb⟩
    · have HR := hr
      go_wp2_with fail
      refine (calls_at gp gl 2 cap _ 0 0 rfl 0 _ hp (by omega) hr.out.1).mono ?_
      rintro e w7 ⟨rfl, rfl⟩
      go_wp2_with fail
      go_ret
      exact ⟨rfl, hb⟩

end Go.Proofs.Ytemdojckeghbjaa

namespace Go.Proofs.Ytemdojckeghbjaa.profileRuns
open Go.ChangeShapes Go.WideShapes Go.ChangeAt Go.RowKit
open Go.ChangeMaps (open_string shut_string)
set_option linter.unusedVariables false

theorem own : ownKnob Try.prog.godebug = none := by kernel_rfl
theorem laidOut : laidOutB Try.prog = true := by kernel_rfl

theorem walk (a0 : Option Addr) (len0 cap0 : Nat) (z0 : List Int) (a1 : Int) (w : World) (w0 : IsRow .i64 w a0 len0 cap0 z0) (w1 : (Lit.int .i64 a1).wf = true) :
    Calls Try.prog 4 #[.slice a0 len0 cap0, .int .i64 a1] w fun e w' => e = .returned (.bool true) ∧ Below w.heap.size w w' := by
  exact runs_walk a0 len0 cap0 _ a1 w w0.row

set_option maxRecDepth 100000 in
theorem lifted (os : Os) (started : os.Started) (H : Type) (enc : TypeId × Value → H) :
    ReturnsInHanded {} Try.checked os 4 .any (Rows.profileRunsSpec.pre6 enc Try.prog Try.f4 Rows.profileRunsRow.domain false) (Rows.profileRunsSpec.post enc Try.prog Try.f4 false true false false) := by
  refine returnsInHanded_of_change (C := Try.checked) own started (by kernel_rfl) Try.func4
    (ChangeSpec.witness6 (enc := enc) (C := Try.checked) false ⟨#[], #[.slice none 0 0, .int .i64 0], []⟩ 8 (by kernel_rfl) (by kernel_rfl) (by kernel_rfl) (by kernel_rfl)) ?_
  intro W base args ds gs before hval0 hW hcnd _
  have hval : ∀ (j : Nat) t v, Try.f4.params[j]? = some t → args[j]? = some v → Value.okWide Try.prog W .any base t v := hval0
  have hW' := hW
  obtain ⟨p, q, hA0, hV, rfl, hfz, hnd⟩ := hW
  have hA : DataW.TrodAll enc Try.prog W 0 (fun _ => true) true Try.f4.params.toList args.toList ds p := hA0
  rw [Try.params4] at hA hval
  obtain ⟨v0, vs0, d0, ds0, p0, q0, hargs, rfl, rfl, h0, r0⟩ := trodAll_cons hA
  obtain ⟨v1, vs1, d1, ds1, p1, q1, rfl, rfl, rfl, h1, r1⟩ := trodAll_cons r0
  obtain ⟨rfl, rfl, rfl⟩ := trodAll_nil r1
  obtain rfl : args = #[v0, v1] := by cases args; simp_all
  obtain ⟨rfl, rfl⟩ := trodVars_none hV
  obtain ⟨a0, len0, cap0, rfl⟩ := okWide_slice Try.underlying31 (hval 0 31 v0 rfl rfl)
  have k0 := h0
  have lt0 : ∀ x ∈ p0, x.block < W.heap.size := by obtain ⟨m, hm⟩ := k0; exact DataW.trod_lt m _ _ _ hm
  obtain ⟨z0, w0⟩ : ∃ zs, IsRow .i64 W a0 len0 cap0 zs := by
    obtain ⟨fuel, hf⟩ := h0
    rcases open_ints Try.underlying31 Try.underlying2 (by kernel_rfl) hf with ⟨hcs, _⟩ | ⟨x, l, c, zs, hcs, _, hl, hm, hz, _, hcell, hwz⟩
    · simp [Value.cells] at hcs
      obtain ⟨rfl, rfl, rfl⟩ := hcs
      exact ⟨[], .inl ⟨rfl, rfl, rfl, rfl⟩⟩
    · simp [Value.cells] at hcs
      obtain ⟨rfl, rfl, rfl⟩ := hcs
      exact ⟨zs, .inr ⟨_, rfl, hl, hm, by simpa using hz, hcell, hwz⟩⟩
  obtain ⟨a1, rfl, rfl, rfl, w1⟩ := open_int Try.underlying2 (hval 1 2 v1 rfl rfl) h1
  clear hA0 hval0
  refine (walk a0 len0 cap0 z0 a1 W w0 w1).mono fun e W' ⟨he, bel⟩ => ?_
  subst he
  exact ⟨_, rfl, _, _, _, [], _, [], hW', trodAll_mk1 (shut_bool Try.underlying4 _), (trodAll_cons_mk (Below.trod laidOut (by kernel_rfl) (of_decide_eq_true (by kernel_rfl)) k0 bel lt0) (trodAll_cons_mk (shut_int Try.underlying2 w1) trodAll_mk0)), rfl, bel.frame _, fun h => by cases h⟩

theorem over : Rows.profileRunsRow.holds Try.pinned (OpenSpec.ofChange Rows.profileRunsSpec) :=
  OpenClaim.holds_of_wide 4 Try.f4 rfl rfl rfl rfl rfl rfl rfl ⟨rfl, rfl, rfl, rfl, rfl⟩ rfl rfl rfl rfl rfl (by kernel_rfl) Try.func4 (by kernel_rfl)
    (of_decide_eq_true (by kernel_rfl)) (by unfold Func.isWrapper; first | (rw [if_pos (by decide +kernel)]; kernel_rfl) | (rw [if_neg (by decide +kernel)]; exact ⟨rfl, rfl⟩))
    (fun os started H enc _ => lifted os started H enc)

theorem proved : Rows.ProfileRunsSaid := over
#print axioms proved
end Go.Proofs.Ytemdojckeghbjaa.profileRuns
