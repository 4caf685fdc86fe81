/- A slice of steps that came in, opened. Conditions: none. -/
import Derived.Test.YtemdojckeghbjaaAny
import Derived.ProofKit
import Derived.OpenShut
import Derived.Deep.Slices
import Derived.ChangeOld
namespace Go.Proofs.Ytemdojckeghbjaa
open Go.ChangeShapes Go.WideShapes Go.ChangeAt Go.RowKit Go.Deep
set_option linter.unusedVariables false

theorem cells33 : Try.prog.cellsOf 33 = 3 := by kernel_rfl
theorem cells31 : Try.prog.cellsOf 31 = 1 := by kernel_rfl
theorem cells3 : Try.prog.cellsOf 3 = 1 := by kernel_rfl
theorem cells2 : Try.prog.cellsOf 2 = 1 := by kernel_rfl

theorem add_spot {x : Addr} {w : World} {v : Value} (h : w.cell? (x.add 0) = some v) : x.spot = none := by
  simpa [Addr.add] using World.cell?_spot h
theorem add_plain' (b off i : Nat) : (Addr.mk b off none).add i = ⟨b, off + i, none⟩ := by unfold Addr.add; split <;> simp_all

theorem open_steps {H : Type} {enc : TypeId × Value → H} {w : World} {base fuel : Nat} {held : Bool} {cs : List Value} {x : DataW H × List MemPlace}
    (h : DataW.trod enc Try.prog w base (fun _ => true) held fuel 23 cs = some x) :
    (cs = [.slice none 0 0] ∧ x = (.nil, [])) ∨
    ∃ (a : Addr) (len cap : Nat) (s : Nat → StepD), cs = [.slice (some a) len cap] ∧ len ≤ cap ∧ Steps w (some a) len s := by
  rcases open_slice Try.underlying23 h with h0 | ⟨a, len, cap, m, n, D, Pl, rfl, hb, hl, hm, hmm, rfl, hx⟩
  · exact .inl h0
  right
  simp only [if_true] at hmm
  subst hmm
  have each : ∀ i, i < len → ∃ s : StepD, ∃ b off, a = ⟨b, off, none⟩ ∧ StepAt w b (off + i * 3) s := by
    intro i hi
    have ha : a.spot = none := by
      obtain ⟨cs', h1, _⟩ := hx 0 (by omega)
      rw [cells33] at h1
      obtain ⟨_, hlen, hcell⟩ := World.cells?_some h1
      have h0 := hcell 0 (by omega)
      rw [Nat.zero_mul, List.getElem?_eq_getElem (by omega)] at h0
      rw [add_add] at h0
      exact add_spot h0
    obtain ⟨b, off, sp⟩ := a
    have ha : sp = none := ha
    subst ha
    obtain ⟨cs', h1, h2⟩ := hx i (by omega)
    rw [cells33] at h1
    obtain ⟨_, hlen, hcell⟩ := World.cells?_some h1
    obtain ⟨xs, k, hk, hxy, _, hxl, hf⟩ := DataW.trod_struct Try.underlying33 h2
    match cs', hlen, xs, hxl with
    | [v0, v1, v2], _, [y0, y1, y2], _ =>
      have e0 := hcell 0 (by omega)
      have e1 := hcell 1 (by omega)
      have e2 := hcell 2 (by omega)
      rw [add_plain', add_plain'] at e0 e1 e2
      have g0 : DataW.trod enc Try.prog w base (fun _ => true) held k 3 (List.take (Try.prog.cellsOf 3) (List.drop 0 [v0, v1, v2])) = some y0 := hf 0 _ rfl
      have g1 : DataW.trod enc Try.prog w base (fun _ => true) held k 3 (List.take (Try.prog.cellsOf 3) (List.drop 1 [v0, v1, v2])) = some y1 := hf 1 _ rfl
      have g2 : DataW.trod enc Try.prog w base (fun _ => true) held k 31 (List.take (Try.prog.cellsOf 31) (List.drop 2 [v0, v1, v2])) = some y2 := hf 2 _ rfl
      rw [cells3] at g0 g1
      rw [cells31] at g2
      obtain ⟨f0, q0, _, _⟩ := DataW.trod_int Try.underlying3 (show DataW.trod enc Try.prog w base (fun _ => true) held k 3 [v0] = some y0 from g0)
      obtain ⟨f1, q1, _, _⟩ := DataW.trod_int Try.underlying3 (show DataW.trod enc Try.prog w base (fun _ => true) held k 3 [v1] = some y1 from g1)
      injection q0 with q0
      injection q1 with q1
      subst q0 q1
      rcases open_ints Try.underlying31 Try.underlying2 cells2 (show DataW.trod enc Try.prog w base (fun _ => true) held k 31 [v2] = some y2 from g2) with ⟨q2, _⟩ | ⟨ad, l, c, zs, q2, _, hl', hm', hz, _, hzc, _⟩
      · injection q2 with q2
        subst q2
        exact ⟨⟨f0, f1, none, 0, 0, fun _ => 0⟩, b, off, rfl, ⟨by simpa using e0, by simpa [Nat.add_assoc] using e1, by simpa [Nat.add_assoc] using e2, Nat.le_refl _, Nat.zero_le _, Row.nil⟩⟩
      · injection q2 with q2
        subst q2
        simp only [if_true] at hz
        exact ⟨⟨f0, f1, some ad, l, c, fun j => zs.getD j 0⟩, b, off, rfl, ⟨by simpa using e0, by simpa [Nat.add_assoc] using e1, by simpa [Nat.add_assoc] using e2, hl', hm', Row.of_add hl' (fun j hj => hzc j (by omega))⟩⟩
  obtain ⟨s, hs⟩ := choose_lt each
  exact ⟨a, len, m, s, rfl, hl, fun i hi => by
    obtain ⟨b, off, e, hst⟩ := hs i hi
    exact ⟨b, off, by rw [e], hst⟩⟩

end Go.Proofs.Ytemdojckeghbjaa
