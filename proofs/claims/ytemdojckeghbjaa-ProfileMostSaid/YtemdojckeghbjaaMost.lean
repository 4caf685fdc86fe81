/- ProfileMost: no more than a thousand calls are counted, proved for every number of calls and any two values. Conditions: none. -/
import Derived.Test.YtemdojckeghbjaaShown
import Derived.ProofKit
import Derived.OpenShut
import Derived.ShutString
import Derived.ChangeOld
namespace Go.Proofs.Ytemdojckeghbjaa
open Go.RowKit
set_option linter.unusedVariables false
attribute [local go_sem] maxI minI

theorem i64_mask16 (n : Int) : bits .and .i64 n 65535 = n % 65536 := by
  have h127 : (BitVec.ofInt 64 65535).toNat = 2 ^ 16 - 1 := by decide
  have key : (BitVec.ofInt 64 n &&& BitVec.ofInt 64 65535).toNat = (n % ((2 ^ 64 : Nat) : Int)).toNat % 2 ^ 16 := by
    rw [BitVec.toNat_and, BitVec.toNat_ofInt, h127, Nat.and_two_pow_sub_one_eq_mod]
  show IntKind.i64.wrap ((BitVec.ofInt 64 n &&& BitVec.ofInt 64 65535).toNat : Nat) = _
  rw [key, IntKind.wrap_i64]
  omega

/-- A new profile over a slice of its own. -/
theorem new_own (m : Nat) (cs : Array Value) (z : Nat → Int) (w : World) (hm : m ≤ 1000000) (hz : ∀ i, i < m → cs[i]? = some (.int .i64 (z i))) :
    Calls Try.prog 9 #[.slice (some ⟨w.heap.size, 0, none⟩) m m] (w.alloc (.cells cs 3)) fun e w' => ∃ gp gl cap, e = .returned (.pointer (some ⟨gp, 0, none⟩)) ∧ IsP w' gp gl m cap (init z) ∧ w.heap.size ≤ gp ∧ gp < gl ∧ Below w.heap.size w w' := by
  refine (new_any _ m m z _ hm (Row.of_blk (Blk.new w 3 cs) hz)).mono ?_
  rintro e w1 ⟨rfl, gl, cap, hP, hgl, hB⟩
  exact ⟨_, gl, cap, rfl, hP, by simp, hgl, ((Below.refl _ _).alloc (Nat.le_refl _) _).trans (hB.mono (by simp))⟩

/-- What a profile of one function of one parameter holds behind k calls of one value. -/
def MostRel (st : Nat → Nat → Int) (k : Nat) (x : Int) : Prop := st 0 0 = 1 ∧ st 0 1 = min (k : Int) 1000 ∧ (k = 0 ∧ st 0 2 = 0 ∨ 0 < k ∧ st 0 2 = x) ∧ st 0 3 = min (k : Int) 1000
theorem MostRel.start (x : Int) : MostRel (init fun _ => 1) 0 x := ⟨rfl, rfl, .inl ⟨rfl, rfl⟩, rfl⟩
theorem MostRel.step {st : Nat → Nat → Int} {k : Nat} {x : Int} (h : MostRel st k x) : MostRel (after st 0 (fun _ => x) 1) (k + 1) x := by
  obtain ⟨h0, h1, h2, h3⟩ := h
  refine ⟨?_, ?_, .inr ⟨by omega, ?_⟩, ?_⟩
  · rw [after_par]; exact h0
  · rw [after_calls, h1]; omega
  · exact after_val st 0 (fun _ => x) 1 (k := 0) (by omega)
  · have := after_tim st 0 (fun _ => x) 1 (k := 0) (by omega)
    rw [show 2 + 0 * 2 + 1 = 3 from rfl, show 2 + 0 * 2 = 2 from rfl] at this
    rw [this, h3]
    split
    · omega
    · rcases h2 with ⟨rfl, _⟩ | ⟨_, h2⟩
      · omega
      · contradiction

theorem MostRel.last {st : Nat → Nat → Int} {k : Nat} {x y : Int} (h : MostRel st k x) : after st 0 (fun _ => y) 1 0 3 = if x = y then min ((k : Int) + 1) 1000 else 1 := by
  obtain ⟨h0, h1, h2, h3⟩ := h
  have := after_tim st 0 (fun _ => y) 1 (k := 0) (by omega)
  rw [show 2 + 0 * 2 + 1 = 3 from rfl, show 2 + 0 * 2 = 2 from rfl] at this
  rw [this, h3]
  rcases h2 with ⟨rfl, h2⟩ | ⟨hk, h2⟩
  · rw [h2]
    split <;> split <;> omega
  · rw [h2]
    split
    · omega
    · rfl

set_option maxRecDepth 100000 in
set_option maxHeartbeats 4000000 in
theorem most_walk (a0 x y : Int) (w : World) :
    Calls Try.prog 5 #[.int .i64 a0, .int .i64 x, .int .i64 y] w fun e w' => e = .returned (.bool true) ∧ Below w.heap.size w w' := by
  obtain ⟨A, hA⟩ : ∃ F, bits BinOp.and .i64 a0 65535 = F := ⟨_, rfl⟩
  have hA0 : 0 ≤ A := by rw [← hA, i64_mask16]; omega
  obtain ⟨N, hN⟩ : ∃ N : Int, A % 2001 = N := ⟨_, rfl⟩
  have hN0 : 0 ≤ N := by omega
  have hN1 : N ≤ 2000 := by omega
  go_enter Try.func5, Try.ntmps5
  go_wp2_with fail
  refine (shown_any _).mono ?_
  rintro e w1 ⟨rfl, hB⟩
  go_wp2_with fail
  refine (new_own 1 _ (fun _ => 1) w1 (by omega) (fun i hi => by match i, hi with | 0, _ => rfl)).mono ?_
  rintro e w2 ⟨gp, gl, cap, rfl, hP, hgp, hgl, hB2⟩
  have hs1 := hB.size
  have hB := hB.trans (hB2.mono hB.size)
  have hgp0 : w.heap.size ≤ gp := Nat.le_trans hs1 hgp
  go_wp2_with fail
  clear hA hN
  go_loopw [9] (fun i wr => ∃ (k : Nat) (st : Nat → Nat → Int), (k : Int) ≤ N ∧ i = .int .i64 k ∧ IsP wr gp gl 1 cap st ∧ Hid (MostRel st k x) ∧ Below w.heap.size w wr)
    (fun i _ => (N - intOf i).toNat)
  case atStart => exact ⟨0, _, hN0, rfl, hP, MostRel.start x, hB⟩
  case round =>
    obtain ⟨k, st, hk, rfl, hp, hr, hb⟩ := hrel
    by_cases hlt : (k : Int) < N
    · go_wp2_with fail
      refine (see_one gp gl 1 cap _ 0 0 rfl x _ hp (by omega) hr.out.1 (by omega)).mono ?_
      rintro e w3 ⟨rfl, hp', hU⟩
      go_wp2_with fail
      go_roundw
      case rel => exact ⟨k + 1, _, by omega, by go_num, hp', hr.out.step, hb.trans (hU.below_alloc (by omega) hb.size)⟩
      case measure => simp [intOf]; omega
    · have hkN : (k : Int) = N := by omega
      subst hkN
      obtain ⟨r0, r1, r2, r3⟩ := hr.out
      have R0 := hid r0
      have R1 := hid r1
      have R3 := hid r3
      have R2 := hid r2
      clear r0 r1 r2 r3
      obtain ⟨M, hM⟩ : ∃ M : Int, min (k : Int) 1000 = M := ⟨_, rfl⟩
      obtain ⟨M2, hM2⟩ : ∃ M : Int, min ((k : Int) + 1) 1000 = M := ⟨_, rfl⟩
      have hV : Hid (st 0 2 = if 0 < k then x else 0) := by
        unfold Hid
        rcases R2.out with ⟨rfl, h⟩ | ⟨h0, h⟩
        · rw [h]; rfl
        · rw [h, if_pos h0]
      have hlast := (hr.out.last (y := y))
      have HL := hid hlast
      clear hlast
      have HM := hid hM
      have HM2 := hid hM2
      by_cases hk0 : k = 0
      · subst hk0
        have hV0 : Hid (st 0 2 = 0) := hV.out
        have e0 : M = 0 := by omega
        have e1 : M2 = 1 := by omega
        subst e0 e1
        clear hM hM2
        have q0 : min (0 : Int) 1000 = 0 := by decide
        have q1 : min (1 : Int) 1000 = 1 := by decide
        go_wp2_with fail
        refine (value_at gp gl 1 cap _ 0 0 rfl 0 0 rfl 0 0 _ hp (by omega) (by rw [R0.out]; omega) hV0.out (R3.out.trans HM.out)).mono ?_
        rintro e w3 ⟨rfl, m3, rfl⟩
        go_wp2_with fail
        refine (calls_at gp gl 1 cap _ 0 0 rfl 0 _ (hp.drewN m3) (by omega) (R1.out.trans HM.out)).mono ?_
        rintro e w4 ⟨rfl, rfl⟩
        go_wp2_with fail
        refine (see_one gp gl 1 cap _ 0 0 rfl y _ (hp.drewN m3) (by omega) R0.out (by omega)).mono ?_
        rintro e w5 ⟨rfl, hp5, hU⟩
        have hb5 := hb.trans (Upd.below_alloc (g := gl) (w := wr) (w' := w5) (o := Obj.cells #[Value.int IntKind.i64 y] 2) ⟨hU.os, hU.tape, hU.output, hU.size, hU.block⟩ (by omega) hb.size)
        by_cases hxy : x = y
        · have hbb : (x == y) = true := by simp [hxy]
          have HXY := hid hxy
          clear hxy
          go_wp2_with fail
          refine (value_at gp gl 1 cap _ 0 0 rfl 0 0 rfl y 1 _ hp5 (by omega) (by rw [after_par, R0.out]; omega) (after_val st 0 (fun _ => y) 1 (k := 0) (by omega)) (HL.out.trans ((if_pos HXY.out).trans HM2.out))).mono ?_
          rintro e w6 ⟨rfl, m6, rfl⟩
          go_wp2_with fail
          go_ret
          exact ⟨rfl, ⟨hb5.os, hb5.tape, hb5.output, hb5.size, hb5.block⟩⟩
        · have hbb : (x == y) = false := by simp [hxy]
          have HXY := hid hxy
          clear hxy
          go_wp2_with fail
          refine (value_at gp gl 1 cap _ 0 0 rfl 0 0 rfl y 1 _ hp5 (by omega) (by rw [after_par, R0.out]; omega) (after_val st 0 (fun _ => y) 1 (k := 0) (by omega)) (HL.out.trans (if_neg HXY.out))).mono ?_
          rintro e w6 ⟨rfl, m6, rfl⟩
          go_wp2_with fail
          go_ret
          exact ⟨rfl, ⟨hb5.os, hb5.tape, hb5.output, hb5.size, hb5.block⟩⟩
      · have hV1 : Hid (st 0 2 = x) := hV.out.trans (if_pos (by omega))
        have hk1 : 0 < (k : Int) := by omega
        have hk2 : ((k : Int) == 0) = false := by simp; omega
        clear hk0
        go_wp2_with fail
        refine (value_at gp gl 1 cap _ 0 0 rfl 0 0 rfl x M _ hp (by omega) (by rw [R0.out]; omega) hV1.out (R3.out.trans HM.out)).mono ?_
        rintro e w3 ⟨rfl, m3, rfl⟩
        go_wp2_with fail
        refine (calls_at gp gl 1 cap _ 0 0 rfl M _ (hp.drewN m3) (by omega) (R1.out.trans HM.out)).mono ?_
        rintro e w4 ⟨rfl, rfl⟩
        go_wp2_with fail
        refine (see_one gp gl 1 cap _ 0 0 rfl y _ (hp.drewN m3) (by omega) R0.out (by omega)).mono ?_
        rintro e w5 ⟨rfl, hp5, hU⟩
        have hb5 := hb.trans (Upd.below_alloc (g := gl) (w := wr) (w' := w5) (o := Obj.cells #[Value.int IntKind.i64 y] 2) ⟨hU.os, hU.tape, hU.output, hU.size, hU.block⟩ (by omega) hb.size)
        by_cases hxy : x = y
        · have hbb : (x == y) = true := by simp [hxy]
          have HXY := hid hxy
          clear hxy
          go_wp2_with fail
          refine (value_at gp gl 1 cap _ 0 0 rfl 0 0 rfl y M2 _ hp5 (by omega) (by rw [after_par, R0.out]; omega) (after_val st 0 (fun _ => y) 1 (k := 0) (by omega)) (HL.out.trans ((if_pos HXY.out).trans HM2.out))).mono ?_
          rintro e w6 ⟨rfl, m6, rfl⟩
          go_wp2_with fail
          go_ret
          exact ⟨rfl, ⟨hb5.os, hb5.tape, hb5.output, hb5.size, hb5.block⟩⟩
        · have hbb : (x == y) = false := by simp [hxy]
          have HXY := hid hxy
          clear hxy
          go_wp2_with fail
          refine (value_at gp gl 1 cap _ 0 0 rfl 0 0 rfl y 1 _ hp5 (by omega) (by rw [after_par, R0.out]; omega) (after_val st 0 (fun _ => y) 1 (k := 0) (by omega)) (HL.out.trans (if_neg HXY.out))).mono ?_
          rintro e w6 ⟨rfl, m6, rfl⟩
          go_wp2_with fail
          go_ret
          exact ⟨rfl, ⟨hb5.os, hb5.tape, hb5.output, hb5.size, hb5.block⟩⟩

end Go.Proofs.Ytemdojckeghbjaa

namespace Go.Proofs.Ytemdojckeghbjaa.profileMost
open Go.ChangeShapes Go.WideShapes Go.ChangeAt Go.RowKit
open Go.ChangeMaps (open_string shut_string)
set_option linter.unusedVariables false      -- a walk need not use every 'w<i>' (that an integer argument fits its kind)

theorem own : ownKnob Try.prog.godebug = none := by kernel_rfl

theorem walk (a0 : Int) (a1 : Int) (a2 : Int) (w0 : (Lit.int .i64 a0).wf = true) (w1 : (Lit.int .i64 a1).wf = true) (w2 : (Lit.int .i64 a2).wf = true) (w : World) :
    Calls Try.prog 5 #[.int .i64 a0, .int .i64 a1, .int .i64 a2] w fun e w' => e = .returned (.bool true) ∧ Below w.heap.size w w' := by
  exact most_walk a0 a1 a2 w

set_option maxRecDepth 100000 in
theorem lifted (os : Os) (started : os.Started) (H : Type) (enc : TypeId × Value → H) :
    ReturnsInHanded {} Try.checked os 5 .any (Rows.profileMostSpec.pre6 enc Try.prog Try.f5 Rows.profileMostRow.domain false) (Rows.profileMostSpec.post enc Try.prog Try.f5 false true false false) := by
  refine returnsInHanded_of_change (C := Try.checked) own started (by kernel_rfl) Try.func5
    (ChangeSpec.witness6 (enc := enc) (C := Try.checked) false ⟨#[], #[.int .i64 0, .int .i64 0, .int .i64 0], []⟩ 8 (by kernel_rfl) (by kernel_rfl) (by kernel_rfl) (by kernel_rfl)) ?_
  intro W base args ds gs before hval0 hW hcnd _
  have hval : ∀ (j : Nat) t v, Try.f5.params[j]? = some t → args[j]? = some v → Value.okWide Try.prog W .any base t v := hval0
  have hW' := hW
  obtain ⟨p, q, hA0, hV, rfl, hfz, hnd⟩ := hW
  have hA : DataW.TrodAll enc Try.prog W 0 (fun _ => true) true Try.f5.params.toList args.toList ds p := hA0
  rw [Try.params5] at hA hval
  obtain ⟨v0, vs0, d0, ds0, p0, q0, hargs, rfl, rfl, h0, r0⟩ := trodAll_cons hA
  obtain ⟨v1, vs1, d1, ds1, p1, q1, rfl, rfl, rfl, h1, r1⟩ := trodAll_cons r0
  obtain ⟨v2, vs2, d2, ds2, p2, q2, rfl, rfl, rfl, h2, r2⟩ := trodAll_cons r1
  obtain ⟨rfl, rfl, rfl⟩ := trodAll_nil r2
  obtain rfl : args = #[v0, v1, v2] := by cases args; simp_all
  obtain ⟨rfl, rfl⟩ := trodVars_none hV
  obtain ⟨a0, rfl, rfl, rfl, w0⟩ := open_int Try.underlying3 (hval 0 3 v0 rfl rfl) h0
  obtain ⟨a1, rfl, rfl, rfl, w1⟩ := open_int Try.underlying2 (hval 1 2 v1 rfl rfl) h1
  obtain ⟨a2, rfl, rfl, rfl, w2⟩ := open_int Try.underlying2 (hval 2 2 v2 rfl rfl) h2
  clear hA0 hval0
  simp only [List.append_nil] at hW'
  refine (walk a0 a1 a2 w0 w1 w2 W).mono fun e W' ⟨he, bel⟩ => ?_
  subst he
  exact ⟨_, rfl, _, _, _, [], _, [], hW', trodAll_mk1 (shut_bool Try.underlying4 _), (trodAll_cons_mk (shut_int Try.underlying3 w0) (trodAll_cons_mk (shut_int Try.underlying2 w1) (trodAll_cons_mk (shut_int Try.underlying2 w2) trodAll_mk0))), rfl, bel.frame _, fun h => by cases h⟩

theorem over : Rows.profileMostRow.holds Try.pinned (OpenSpec.ofChange Rows.profileMostSpec) :=
  OpenClaim.holds_of_wide 5 Try.f5 rfl rfl rfl rfl rfl rfl rfl ⟨rfl, rfl, rfl, rfl, rfl⟩ rfl rfl rfl rfl rfl (by kernel_rfl) Try.func5 (by kernel_rfl)
    (of_decide_eq_true (by kernel_rfl)) (by unfold Func.isWrapper; first | (rw [if_pos (by decide +kernel)]; kernel_rfl) | (rw [if_neg (by decide +kernel)]; exact ⟨rfl, rfl⟩))
    (fun os started H enc _ => lifted os started H enc)

theorem proved : Rows.ProfileMostSaid :=
  over
#print axioms proved
end Go.Proofs.Ytemdojckeghbjaa.profileMost
