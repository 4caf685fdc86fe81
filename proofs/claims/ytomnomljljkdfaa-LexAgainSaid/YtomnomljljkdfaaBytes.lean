/- Bytes in a block: what a slice of bytes of the call's own holds. Conditions: none. -/
import Derived.Test.YtomnomljljkdfaaJoin
namespace Go.Proofs.Ytomnomljljkdfaa
open Go.RowKit
set_option linter.unusedVariables false

/-- The cells of m bytes. -/
def bytesV (y : Nat → Int) (m : Nat) : List Value := (List.range m).map fun j => .int .u8 (y j)
theorem bytesV_len (y : Nat → Int) (m : Nat) : (bytesV y m).length = m := by simp [bytesV]
theorem bytesV_get (y : Nat → Int) (m j : Nat) (h : j < m) : (bytesV y m)[j]? = some (.int .u8 (y j)) := by simp [bytesV, h]
theorem bytesV_one (y : Nat → Int) (m : Nat) : ∀ u ∈ bytesV y m, u.oneCell' = true := by
  intro u hu
  simp only [bytesV, List.mem_map] at hu
  obtain ⟨_, _, rfl⟩ := hu
  rfl
def more (y : Nat → Int) (m : Nat) (c : Int) : Nat → Int := fun j => if j = m then c else y j
theorem bytesV_snoc (y : Nat → Int) (m : Nat) (c : Int) : bytesV y m ++ [.int .u8 c] = bytesV (more y m c) (m + 1) := by
  unfold bytesV
  rw [List.range_succ, List.map_append]
  congr 1
  · apply List.map_congr_left
    intro j hj
    have := List.mem_range.1 hj
    show Value.int .u8 (y j) = Value.int .u8 (if j = m then c else y j)
    rw [if_neg (by omega)]
  · show [Value.int .u8 c] = [Value.int .u8 (if m = m then c else y m)]
    rw [if_pos rfl]
theorem bytesV_cells {w : World} {A : Option Addr} {m : Nat} {y : Nat → Int} (h : Row w A m (fun j => .int .u8 (y j))) : ∀ ad, A = some ad → ∀ j u, (bytesV y m)[j]? = some u → w.cell? (ad.add j) = some u := by
  rintro ⟨b, off, sp⟩ e j u hu
  have hj : j < m := by
    have := (List.getElem?_eq_some_iff.1 hu).1
    simpa [bytesV_len] using this
  rw [bytesV_get y m j hj] at hu
  obtain ⟨b', off', e', hc⟩ := h j hj
  rw [e] at e'
  injection e' with e'
  injection e' with e1 e2 e3
  subst e1 e2 e3
  rw [← hu, ← hc]
  have : (Addr.mk b off none).add j = ⟨b, off + j, none⟩ := by unfold Addr.add; split <;> simp_all
  rw [this]
theorem Row.nil_len {w : World} {A : Option Addr} {m : Nat} {f : Nat → Value} (h : Row w A m f) (e : A = none) : m = 0 := by
  by_cases h0 : m = 0
  · exact h0
  · obtain ⟨b, off, e', _⟩ := h 0 (by omega)
    rw [e] at e'; cases e'
/-- A row of bytes of the call's own, as a slice. -/
theorem own_bytes {w : World} {base : Nat} {v : Value} {m : Nat} {y : Nat → Int} (h : w.ownsRow base 5 1 v m (bytesV y m)) (hm : 0 < m) : ∃ g c, v = .slice (some ⟨g, 0, none⟩) m c ∧ m ≤ c ∧ base ≤ g ∧ g < w.heap.size ∧ Row w (some ⟨g, 0, none⟩) m (fun j => .int .u8 (y j)) := by
  obtain ⟨g, c, cs, h1, h2, h3, h4, h5, h6⟩ := own_some h (by intro e; have := congrArg List.length e; rw [bytesV_len] at this; simp at this; omega)
  exact ⟨g, c, h1, h5, h2, h3.lt, Row.of_blk h3 fun i hi => by rw [h6 i (by omega)]; exact bytesV_get y m i hi⟩

/-- Below.trans, over what came in. -/
theorem Blk.row {w : World} {g : Nat} {cs : Array Value} {m : Nat} {y : Nat → Int} (h : Blk w g 5 cs) (hc : ∀ j, j < m → cs[j]? = some (.int .u8 (y j))) : Row w (some ⟨g, 0, none⟩) m (fun j => .int .u8 (y j)) := Row.of_blk h hc

/-- Bytes, a # behind n of them, no end of a line behind it. -/
structure Noted (n : Nat) (z : Nat → Int) (N : Nat) (Y : Nat → Int) : Prop where
  lt : n < N
  same : ∀ j, j < n → Y j = z j
  mark : Y n = 35
  no10 : ∀ j, n < j → j < N → Y j ≠ 10
  u8 : ∀ j, j < N → 0 ≤ Y j ∧ Y j ≤ 255
theorem Noted.start {n : Nat} {z : Nat → Int} (h : ∀ j, j < n → 0 ≤ z j ∧ z j ≤ 255) : Noted n z (n + 1) (more z n 35) := by
  refine ⟨by omega, fun j hj => ?_, ?_, fun j h1 h2 => by omega, fun j hj => ?_⟩
  · unfold more; rw [if_neg (by omega)]
  · unfold more; rw [if_pos rfl]
  · unfold more
    split
    · omega
    · exact h j (by omega)
theorem Noted.snoc {n : Nat} {z : Nat → Int} {N : Nat} {Y : Nat → Int} (h : Noted n z N Y) {c : Int} (hc : 0 ≤ c ∧ c ≤ 255) (h10 : c ≠ 10) : Noted n z (N + 1) (more Y N c) := by
  have hl := h.lt
  refine ⟨by omega, fun j hj => ?_, ?_, fun j h1 h2 => ?_, fun j hj => ?_⟩
  · unfold more; rw [if_neg (by omega)]; exact h.same j hj
  · unfold more; rw [if_neg (by omega)]; exact h.mark
  · unfold more
    split
    · exact h10
    · exact h.no10 j h1 (by omega)
  · unfold more
    split
    · exact hc
    · exact h.u8 j (by omega)
end Go.Proofs.Ytomnomljljkdfaa
