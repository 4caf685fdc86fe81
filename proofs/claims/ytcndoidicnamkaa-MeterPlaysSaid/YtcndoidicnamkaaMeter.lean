/- Contracts of the meter: what each of its functions does to the block that holds it. Conditions: the block of the meter is known. -/
import Derived.Test.YtcndoidicnamkaaRows
import Derived.WalkKit
import Derived.WalkSpells
import Derived.WalkLawsBesides
import Derived.Deep.Draws
import Derived.Deep.QuietTactic
import Derived.BigQuiet
import Derived.Handy
namespace Go.Proofs.Ytcndoidicnamkaa
open Go.RowKit

theorem hid {p : Prop} (h : p) : Hid p := h

/-- The builtins max and min of two whole numbers of one kind. -/
theorem maxI (ats : Array TypeId) (ty : TypeId) (k : IntKind) (x y : Int) : Builtin.max_ ats ty #[.int k x, .int k y] = pure (.int k (max x y)) := by
  simp only [Builtin.max_, List.foldlM_cons, List.foldlM_nil, Builtin.max2, gt_iff_lt]
  rw [show (if x < y then y else x) = max x y from by omega]; rfl
theorem minI (ats : Array TypeId) (ty : TypeId) (k : IntKind) (x y : Int) : Builtin.min_ ats ty #[.int k x, .int k y] = pure (.int k (min x y)) := by
  simp only [Builtin.min_, List.foldlM_cons, List.foldlM_nil, Builtin.min2]
  rw [show (if y < x then y else x) = min x y from by omega]; rfl

/-- A slice that came in: where it has elements, they lie behind its address, in a block below B. -/
def Row (B : Nat) (w : World) (a : Option Addr) (n : Nat) (f : Nat → Value) : Prop :=
  ∀ i, i < n → ∃ b off, a = some ⟨b, off, none⟩ ∧ b < B ∧ w.cell? ⟨b, off + i, none⟩ = some (f i)
theorem Row.below {B : Nat} {w w' : World} {a : Option Addr} {n : Nat} {f : Nat → Value} (h : Row B w a n f) (hb : Below B w w') : Row B w' a n f := fun i hi => by
  obtain ⟨b, off, ha, hlt, hc⟩ := h i hi
  exact ⟨b, off, ha, hlt, (hb.cell (p := ⟨b, off + i, none⟩) hlt).trans hc⟩

/-- Block g is a meter: its clock, its fuel. -/
def IsM (w : World) (g : Nat) (n f : Int) : Prop := w.heap[g]? = some (.cells #[.int .i64 n, .int .i64 f] 34 (0, 0))

section
variable {w : World} {g : Nat} {n f : Int}
theorem IsM.c0 (h : IsM w g n f) : w.cell? ⟨g, 0, none⟩ = some (.int .i64 n) := by unfold IsM at h; simp [World.cell?, h]
theorem IsM.c1 (h : IsM w g n f) : w.cell? ⟨g, 1, none⟩ = some (.int .i64 f) := by unfold IsM at h; simp [World.cell?, h]
theorem IsM.fz (h : IsM w g n f) (i : Nat) : w.frozen? ⟨g, i, none⟩ = false := by unfold IsM at h; simp [World.frozen?, h]
theorem IsM.lt (h : IsM w g n f) : g < w.heap.size := lt_of_block h
end

theorem now_any (g : Nat) (n : Int) (w : World) (h : w.cell? ⟨g, 0, none⟩ = some (.int .i64 n)) :
    Calls Try.prog 14 #[.pointer (some ⟨g, 0, none⟩)] w fun e w' => e = .returned (.int .i64 n) ∧ w' = w := by
  go_enter Try.func14, Try.ntmps14
  go_wp2
  go_ret
  exact ⟨rfl, rfl⟩

theorem add_any (g : Nat) (n k : Int) (w : World) (h : w.cell? ⟨g, 0, none⟩ = some (.int .i64 n)) (hf : w.frozen? ⟨g, 0, none⟩ = false) (h0 : 0 ≤ n) (h1 : n ≤ 1099511627776) (h2 : 0 ≤ k) (h3 : k ≤ 1099511627776) :
    Calls Try.prog 16 #[.pointer (some ⟨g, 0, none⟩), .int .i64 k] w fun e w' => e = .returned (.tuple #[]) ∧ w' = w.setCell ⟨g, 0, none⟩ (.int .i64 (n + k)) := by
  go_enter Try.func16, Try.ntmps16
  go_wp2
  go_end0
  exact ⟨rfl, rfl⟩

theorem over_any (g : Nat) (n f : Int) (w : World) (h : IsM w g n f) :
    Calls Try.prog 15 #[.pointer (some ⟨g, 0, none⟩)] w fun e w' => e = .returned (.bool (decide (f < n))) ∧ ∃ m, w' = w.drewN m := by
  have c0 := h.c0
  have c1 := h.c1
  clear h
  go_enter Try.func15, Try.ntmps15
  go_wp2
  go_quiet ((go_at_call 14; exact Calls.quiet_of_same (now_any _ n _ (by simpa using c0))))
  go_wp2
  go_ret
  exact ⟨rfl, nq, rfl⟩


def capF (f : Int) : Int := min (max f 0) 1099511627776

theorem new_any (f : Int) (w : World) :
    Calls Try.prog 10 #[.int .i64 f] w fun e w' => e = .returned (.pointer (some ⟨w.heap.size, 0, none⟩)) ∧ w' = w.alloc (.cells #[.int .i64 0, .int .i64 (capF f)] 34) := by
  have hu34 := Try.underlying34
  go_enter Try.func10, Try.ntmps10
  go_wp2
  all_goals (go_ret; refine ⟨rfl, ?_⟩)
  · rw [show capF f = 0 from by unfold capF; omega]
  · rw [show capF f = 1099511627776 from by unfold capF; omega]
  · rw [show capF f = f from by unfold capF; omega]

/-- Block g alone may have been written. -/
structure Upd (g : Nat) (w w' : World) : Prop where
  os : w'.os = w.os
  tape : w'.tape = w.tape
  output : w'.output = w.output
  size : w'.heap.size = w.heap.size
  block : ∀ k, k ≠ g → w'.heap[k]? = w.heap[k]?

theorem Upd.refl (g : Nat) (w : World) : Upd g w w := ⟨rfl, rfl, rfl, rfl, fun _ _ => rfl⟩
theorem Upd.trans {g : Nat} {a b c : World} (h : Upd g a b) (k : Upd g b c) : Upd g a c :=
  ⟨k.os.trans h.os, k.tape.trans h.tape, k.output.trans h.output, k.size.trans h.size, fun i hi => (k.block i hi).trans (h.block i hi)⟩
theorem Upd.drewN {g : Nat} {a b : World} (h : Upd g a b) (n : Nat) : Upd g a (b.drewN n) := h.trans ⟨rfl, rfl, rfl, rfl, fun _ _ => rfl⟩
theorem Upd.setCell {g : Nat} {a b : World} (h : Upd g a b) (i : Nat) (u : Value) : Upd g a (b.setCell ⟨g, i, none⟩ u) :=
  h.trans ⟨rfl, rfl, rfl, by simp [World.setCell], fun k hk => Below.heap_setCell _ _ _ _ hk⟩
theorem Upd.below {g B : Nat} {a b : World} (h : Upd g a b) (hB : B ≤ g) : Below B a b :=
  ⟨h.os, h.tape, h.output, by rw [h.size]; exact Nat.le_refl _, fun k hk => h.block k (by omega)⟩
theorem Upd.cell {g : Nat} {a b : World} (h : Upd g a b) {p : Addr} (hp : p.block ≠ g) : b.cell? p = a.cell? p := World.cell?_of_block (w := a) (h.block p.block hp)
theorem Upd.isM {g k : Nat} {a b : World} {n f : Int} (h : Upd g a b) (hk : k ≠ g) (hm : IsM a k n f) : IsM b k n f := by
  unfold IsM at *; rw [h.block k hk]; exact hm

theorem IsM.drewN {w : World} {g : Nat} {n f : Int} (h : IsM w g n f) (m : Nat) : IsM (w.drewN m) g n f := h
theorem IsM.set {w : World} {g : Nat} {n f : Int} (h : IsM w g n f) (k : Int) : IsM (w.setCell ⟨g, 0, none⟩ (.int .i64 k)) g k f := by
  unfold IsM at *
  simp [World.setCell, Array.getElem?_modify, h]

theorem over_yes (g : Nat) (n f : Int) (w : World) (h : IsM w g n f) (hn : f < n) :
    Calls Try.prog 15 #[.pointer (some ⟨g, 0, none⟩)] w fun e w' => e = .returned (.bool true) ∧ ∃ m, w' = w.drewN m := by
  have := over_any g n f w h
  rwa [decide_eq_true hn] at this
theorem over_no (g : Nat) (n f : Int) (w : World) (h : IsM w g n f) (hn : n ≤ f) :
    Calls Try.prog 15 #[.pointer (some ⟨g, 0, none⟩)] w fun e w' => e = .returned (.bool false) ∧ ∃ m, w' = w.drewN m := by
  have := over_any g n f w h
  rwa [decide_eq_false (by omega)] at this

/-- What a charge answers, and what the clock is behind it. -/
def chE (n f k : Int) : Int := if k < 0 ∨ 1099511627776 < k then 1 else if f < n then 8 else if f < n + k then 8 else 0
def chN (n f k : Int) : Int := if k < 0 ∨ 1099511627776 < k then n else if f < n then n else n + k

theorem charge_any (g : Nat) (n f k : Int) (w : World) (h : IsM w g n f) (h0 : 0 ≤ n) (hf : f ≤ 1099511627776) :
    Calls Try.prog 12 #[.pointer (some ⟨g, 0, none⟩), .int .i64 k] w fun e w' => e = .returned (.int .i64 (chE n f k)) ∧ IsM w' g (chN n f k) f ∧ Upd g w w' := by
  by_cases hk : k < 0 ∨ 1099511627776 < k
  · have e1 : chE n f k = 1 := by unfold chE; rw [if_pos hk]
    have e2 : chN n f k = n := by unfold chN; rw [if_pos hk]
    rw [e1, e2]
    clear e1 e2
    rcases hk with hk | hk
    · go_enter Try.func12, Try.ntmps12
      go_wp2
      go_ret
      exact ⟨rfl, h, Upd.refl _ _⟩
    · have hk' : 0 ≤ k := by omega
      go_enter Try.func12, Try.ntmps12
      go_wp2
      go_ret
      exact ⟨rfl, h, Upd.refl _ _⟩
  · by_cases hn : f < n
    · have e1 : chE n f k = 8 := by unfold chE; rw [if_neg hk, if_pos hn]
      have e2 : chN n f k = n := by unfold chN; rw [if_neg hk, if_pos hn]
      rw [e1, e2]
      clear e1 e2
      have hk1 : 0 ≤ k := by omega
      have hk2 : k ≤ 1099511627776 := by omega
      clear hk
      go_enter Try.func12, Try.ntmps12
      go_wp2_with fail
      refine (over_yes g n f _ h hn).mono ?_
      rintro e w1 ⟨rfl, m, rfl⟩
      go_wp2_with fail
      refine (over_yes g n f _ (h.drewN m) hn).mono ?_
      rintro e w1 ⟨rfl, m2, rfl⟩
      go_wp2_with fail
      go_ret
      exact ⟨rfl, h, (Upd.refl _ _).drewN _⟩
    · have hk1 : 0 ≤ k := by omega
      have hk2 : k ≤ 1099511627776 := by omega
      have hn1 : n ≤ f := by omega
      have e2 : chN n f k = n + k := by unfold chN; rw [if_neg hk, if_neg hn]
      have e1 : chE n f k = if f < n + k then 8 else 0 := by unfold chE; rw [if_neg hk, if_neg hn]
      rw [e1, e2]
      clear e1 e2 hk hn
      by_cases hm : f < n + k
      · rw [if_pos hm]
        go_enter Try.func12, Try.ntmps12
        go_wp2_with fail
        refine (over_no g n f _ h hn1).mono ?_
        rintro e w1 ⟨rfl, m, rfl⟩
        go_wp2_with fail
        have h1 := h.drewN m
        have hn2 : n ≤ 1099511627776 := by omega
        refine (add_any g n k _ h1.c0 (h1.fz 0) h0 hn2 hk1 hk2).mono ?_
        rintro e w1 ⟨rfl, rfl⟩
        go_wp2_with fail
        have h2 := h1.set (n + k)
        refine (over_yes g (n + k) f _ h2 hm).mono ?_
        rintro e w1 ⟨rfl, m2, rfl⟩
        go_wp2_with fail
        go_ret
        exact ⟨rfl, h2, (((Upd.refl _ _).drewN _).setCell _ _).drewN _⟩
      · rw [if_neg hm]
        have hm' : n + k ≤ f := by omega
        clear hm
        go_enter Try.func12, Try.ntmps12
        go_wp2_with fail
        refine (over_no g n f _ h hn1).mono ?_
        rintro e w1 ⟨rfl, m, rfl⟩
        go_wp2_with fail
        have h1 := h.drewN m
        have hn2 : n ≤ 1099511627776 := by omega
        refine (add_any g n k _ h1.c0 (h1.fz 0) h0 hn2 hk1 hk2).mono ?_
        rintro e w1 ⟨rfl, rfl⟩
        go_wp2_with fail
        have h2 := h1.set (n + k)
        refine (over_no g (n + k) f _ h2 hm').mono ?_
        rintro e w1 ⟨rfl, m2, rfl⟩
        go_wp2_with fail
        go_ret
        exact ⟨rfl, h2, (((Upd.refl _ _).drewN _).setCell _ _).drewN _⟩


theorem shown_any (w : World) : Calls Try.prog 9 #[] w fun e w' => e = .returned (.bool true) ∧ Below w.heap.size w w' := by
  go_enter Try.func9, Try.ntmps9
  go_wp2_with fail
  refine (new_any 3 _).mono ?_
  rintro e w1 ⟨rfl, hw⟩
  have hM : IsM w1 w.heap.size 0 3 := by rw [hw]; exact heap_alloc_new w _
  have hB : Below w.heap.size w w1 := by rw [hw]; exact (Below.refl _ _).alloc (Nat.le_refl _) _
  clear hw
  go_wp2_with fail
  refine (charge_any _ 0 3 2 _ hM (by decide) (by decide)).mono ?_
  rintro e w2 ⟨rfl, h2, u2⟩
  rw [show chE 0 3 2 = 0 from by decide]
  rw [show chN 0 3 2 = 2 from by decide] at h2
  go_wp2_with fail
  refine (over_no _ 2 3 _ h2 (by decide)).mono ?_
  rintro e w3 ⟨rfl, m3, rfl⟩
  go_wp2_with fail
  refine (charge_any _ 2 3 2 _ (h2.drewN m3) (by decide) (by decide)).mono ?_
  rintro e w4 ⟨rfl, h4, u4⟩
  rw [show chE 2 3 2 = 8 from by decide]
  rw [show chN 2 3 2 = 4 from by decide] at h4
  go_wp2_with fail
  refine (charge_any _ 4 3 1 _ h4 (by decide) (by decide)).mono ?_
  rintro e w5 ⟨rfl, h5, u5⟩
  rw [show chE 4 3 1 = 8 from by decide]
  rw [show chN 4 3 1 = 4 from by decide] at h5
  go_wp2_with fail
  refine (charge_any _ 4 3 (-1) _ h5 (by decide) (by decide)).mono ?_
  rintro e w6 ⟨rfl, h6, u6⟩
  rw [show chE 4 3 (-1) = 1 from by decide]
  rw [show chN 4 3 (-1) = 4 from by decide] at h6
  go_wp2_with fail
  refine (now_any _ 4 _ h6.c0).mono ?_
  rintro e w7 ⟨rfl, rfl⟩
  go_wp2_with fail
  refine (over_yes _ 4 3 _ h6 (by decide)).mono ?_
  rintro e w8 ⟨rfl, m8, rfl⟩
  go_wp2_with fail
  go_ret
  exact ⟨rfl, hB.trans ((((((u2.drewN _).trans u4).trans u5).trans u6).drewN _).below (Nat.le_refl _))⟩


/-- What the opening of a slice of whole numbers tells. -/
def IsRow (k : IntKind) (w : World) (a : Option Addr) (len cap : Nat) (zs : List Int) : Prop :=
  (a = none ∧ len = 0 ∧ cap = 0 ∧ zs = []) ∨
  ∃ x, a = some x ∧ len ≤ cap ∧ cap ≤ maxLen ∧ zs.length = cap ∧ (∀ i, i < zs.length → w.cell? (x.add i) = some (.int k (zs.getD i 0))) ∧ ∀ n ∈ zs, (Lit.int k n).wf = true
theorem IsRow.row {k : IntKind} {w : World} {a : Option Addr} {len cap : Nat} {zs : List Int} (h : IsRow k w a len cap zs) : Row w.heap.size w a len (fun i => .int k (zs.getD i 0)) := by
  intro i hi
  rcases h with ⟨_, h0, _⟩ | ⟨x, rfl, hl, hm, hz, hc, _⟩
  · omega
  · obtain ⟨b, off, spot⟩ := x
    have h0 := hc 0 (by omega)
    have hs : spot = none := by simpa [Addr.add] using World.cell?_spot h0
    subst hs
    have h1 := hc i (by omega)
    have e : (Addr.mk b off none).add i = ⟨b, off + i, none⟩ := by unfold Addr.add; split <;> simp_all
    rw [e] at h1
    exact ⟨b, off, rfl, World.block_lt_of_cell? _ _ h1, h1⟩
theorem IsRow.len_le {k : IntKind} {w : World} {a : Option Addr} {len cap : Nat} {zs : List Int} (h : IsRow k w a len cap zs) : len ≤ 9223372036854775807 := by
  rcases h with ⟨_, h0, _⟩ | ⟨x, _, hl, hm, _⟩
  · omega
  · unfold maxLen at hm; omega
theorem IsRow.wf {k : IntKind} {w : World} {a : Option Addr} {len cap : Nat} {zs : List Int} (h : IsRow k w a len cap zs) (i : Nat) (hi : i < len) : (Lit.int k (zs.getD i 0)).wf = true := by
  rcases h with ⟨_, h0, _⟩ | ⟨x, _, hl, hm, hz, _, hw⟩
  · omega
  · have : i < zs.length := by omega
    rw [List.getD_eq_getElem?_getD, List.getElem?_eq_getElem this]
    exact hw _ (List.getElem_mem this)

end Go.Proofs.Ytcndoidicnamkaa
