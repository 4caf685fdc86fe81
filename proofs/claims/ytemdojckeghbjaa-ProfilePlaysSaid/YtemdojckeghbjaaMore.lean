/- Small things that the statements of the profile share. Conditions: none. -/
import Derived.Test.YtemdojckeghbjaaShown
namespace Go.Proofs.Ytemdojckeghbjaa
open Go.RowKit
set_option linter.unusedVariables false

/-- A new profile over a slice of its own. -/
theorem new_own (m : Nat) (cs : Array Value) (z : Nat → Int) (w : World) (hm : m ≤ 1000000) (hz : ∀ i, i < m → cs[i]? = some (.int .i64 (z i))) :
    Calls Try.prog 9 #[.slice (some ⟨w.heap.size, 0, none⟩) m m] (w.alloc (.cells cs 3)) fun e w' => ∃ gp gl cap, e = .returned (.pointer (some ⟨gp, 0, none⟩)) ∧ IsP w' gp gl m cap (init z) ∧ w.heap.size ≤ gp ∧ gp < gl ∧ Below w.heap.size w w' := by
  refine (new_any _ m m z _ hm (Row.of_blk (Blk.new w 3 cs) hz)).mono ?_
  rintro e w1 ⟨rfl, gl, cap, hP, hgl, hB⟩
  exact ⟨_, gl, cap, rfl, hP, by simp, hgl, ((Below.refl _ _).alloc (Nat.le_refl _) _).trans (hB.mono (by simp))⟩

/-- What an opened slice tells. -/
def IsRow (k : IntKind) (w : World) (a : Option Addr) (len cap : Nat) (zs : List Int) : Prop :=
  (a = none ∧ len = 0 ∧ cap = 0 ∧ zs = []) ∨
  ∃ x, a = some x ∧ len ≤ cap ∧ cap ≤ maxLen ∧ zs.length = cap ∧ (∀ i, i < zs.length → w.cell? (x.add i) = some (.int k (zs.getD i 0))) ∧ ∀ n ∈ zs, (Lit.int k n).wf = true
theorem IsRow.row {k : IntKind} {w : World} {a : Option Addr} {len cap : Nat} {zs : List Int} (h : IsRow k w a len cap zs) : Row w a len (fun i => .int k (zs.getD i 0)) := by
  intro i hi
  rcases h with ⟨_, h0, _⟩ | ⟨x, rfl, hl, hm, hz, hc, _⟩
  · omega
  · obtain ⟨b, off, spot⟩ := x
    have h0 := hc 0 (by omega)
    have hs : spot = none := by simpa [Addr.add] using World.cell?_spot h0
    subst hs
    have h1 := hc i (by omega)
    have e : (Addr.mk b off none).add i = ⟨b, off + i, none⟩ := by unfold Addr.add; split <;> simp_all
    rw [e] at h1
    exact ⟨b, off, rfl, h1⟩
theorem Row.below {B : Nat} {w w' : World} {a : Option Addr} {n : Nat} {f : Nat → Value} (h : Row w a n f) (hw : w.heap.size ≤ B) (hb : Below B w w') : Row w' a n f := fun i hi => by
  obtain ⟨b, off, ha, hc⟩ := h i hi
  exact ⟨b, off, ha, (hb.cell (p := ⟨b, off + i, none⟩) (Nat.lt_of_lt_of_le (World.block_lt_of_cell? _ _ hc) hw)).trans hc⟩

/-- A row of cells behind an address. -/
theorem Row.of_add {w : World} {x : Addr} {len cap : Nat} {f : Nat → Value} (hl : len ≤ cap) (hc : ∀ i, i < cap → w.cell? (x.add i) = some (f i)) : Row w (some x) len f := by
  intro i hi
  obtain ⟨b, off, spot⟩ := x
  have h0 := hc 0 (by omega)
  have hs : spot = none := by simpa [Addr.add] using World.cell?_spot h0
  subst hs
  have h1 := hc i (by omega)
  have e : (Addr.mk b off none).add i = ⟨b, off + i, none⟩ := by unfold Addr.add; split <;> simp_all
  rw [e] at h1
  exact ⟨b, off, rfl, h1⟩
theorem getD_all {zs : List Int} {p : Int → Prop} (h : ∀ n ∈ zs, p n) {j : Nat} (hj : j < zs.length) : p (zs.getD j 0) := by
  rw [List.getD_eq_getElem?_getD, List.getElem?_eq_getElem hj]
  exact h _ (List.getElem_mem hj)

end Go.Proofs.Ytemdojckeghbjaa
