/- Contracts of the profile: what each of its functions does to the blocks that hold it. Conditions: the blocks of the profile are known. -/
import Derived.Test.YtemdojckeghbjaaRows
import Derived.WalkKit
import Derived.WalkSpells
import Derived.WalkLawsBesides
import Derived.Deep.Draws
import Derived.Deep.QuietTactic
import Derived.BigQuiet
import Derived.Handy
namespace Go.Proofs.Ytemdojckeghbjaa
open Go.RowKit
set_option linter.unusedVariables false

theorem hid {p : Prop} (h : p) : Hid p := h

/-- The builtins max and min of two whole numbers of one kind. -/
theorem maxI (ats : Array TypeId) (ty : TypeId) (k : IntKind) (x y : Int) : Builtin.max_ ats ty #[.int k x, .int k y] = pure (.int k (max x y)) := by
  simp only [Builtin.max_, List.foldlM_cons, List.foldlM_nil, Builtin.max2, gt_iff_lt]
  rw [show (if x < y then y else x) = max x y from by omega]; rfl
theorem minI (ats : Array TypeId) (ty : TypeId) (k : IntKind) (x y : Int) : Builtin.min_ ats ty #[.int k x, .int k y] = pure (.int k (min x y)) := by
  simp only [Builtin.min_, List.foldlM_cons, List.foldlM_nil, Builtin.min2]
  rw [show (if y < x then y else x) = min x y from by omega]; rfl
attribute [local go_sem] maxI minI

/-! ### Blocks -/
def Blk (w : World) (g : Nat) (t : TypeId) (cs : Array Value) : Prop := w.heap[g]? = some (.cells cs t (0, 0))
section
variable {w w' : World} {g : Nat} {t : TypeId} {cs : Array Value}
theorem Blk.lt (h : Blk w g t cs) : g < w.heap.size := lt_of_block h
theorem Blk.cell (h : Blk w g t cs) (i : Nat) : w.cell? ⟨g, i, none⟩ = cs[i]? := by unfold Blk at h; simp [World.cell?, h]
theorem Blk.fz (h : Blk w g t cs) (i : Nat) : w.frozen? ⟨g, i, none⟩ = false := by unfold Blk at h; simp [World.frozen?, h]
theorem Blk.new (w : World) (t : TypeId) (cs : Array Value) : Blk (w.alloc (.cells cs t)) w.heap.size t cs := heap_alloc_new w _
theorem Blk.drewN (h : Blk w g t cs) (n : Nat) : Blk (w.drewN n) g t cs := h
theorem Blk.alloc (h : Blk w g t cs) (o : Obj) : Blk (w.alloc o) g t cs := (Below.heap_alloc w o g h.lt).trans h
theorem Blk.set (h : Blk w g t cs) (i : Nat) (u : Value) : Blk (w.setCell ⟨g, i, none⟩ u) g t (cs.setIfInBounds i u) := by
  unfold Blk at h ⊢
  simp [World.setCell, Array.getElem?_modify, h]
theorem Blk.far (h : Blk w g t cs) {p : Addr} (hp : g ≠ p.block) (u : Value) : Blk (w.setCell p u) g t cs := (Below.heap_setCell w p u g hp).trans h
theorem Blk.below {B : Nat} (h : Blk w g t cs) (hb : Below B w w') (hg : g < B) : Blk w' g t cs := (hb.block g hg).trans h
theorem Blk.inj {t' : TypeId} {cs' : Array Value} (h : Blk w g t cs) (h' : Blk w g t' cs') : t = t' ∧ cs = cs' := by
  unfold Blk at h h'; rw [h] at h'; injection h' with h'; injection h' with a b; exact ⟨b, a⟩
theorem Blk.ne_ {g' : Nat} {t' : TypeId} {cs' : Array Value} (h : Blk w g t cs) (h' : Blk w g' t' cs') (hne : t ≠ t') : g ≠ g' := by
  rintro rfl; exact hne (h.inj h').1
end

/-- Block g alone may have been written; new blocks may have come. -/
structure Upd (g : Nat) (w w' : World) : Prop where
  os : w'.os = w.os
  tape : w'.tape = w.tape
  output : w'.output = w.output
  size : w.heap.size ≤ w'.heap.size
  block : ∀ k, k < w.heap.size → k ≠ g → w'.heap[k]? = w.heap[k]?
section
variable {g : Nat} {a b c : World}
theorem Upd.refl (g : Nat) (w : World) : Upd g w w := ⟨rfl, rfl, rfl, Nat.le_refl _, fun _ _ _ => rfl⟩
theorem Upd.trans (h : Upd g a b) (k : Upd g b c) : Upd g a c :=
  ⟨k.os.trans h.os, k.tape.trans h.tape, k.output.trans h.output, Nat.le_trans h.size k.size, fun i hi hg => (k.block i (Nat.lt_of_lt_of_le hi h.size) hg).trans (h.block i hi hg)⟩
theorem Upd.drewN (h : Upd g a b) (n : Nat) : Upd g a (b.drewN n) := h.trans ⟨rfl, rfl, rfl, Nat.le_refl _, fun _ _ _ => rfl⟩
theorem Upd.setCell (h : Upd g a b) (i : Nat) (u : Value) : Upd g a (b.setCell ⟨g, i, none⟩ u) :=
  h.trans ⟨rfl, rfl, rfl, by simp [World.setCell], fun k _ hk => Below.heap_setCell _ _ _ _ hk⟩
theorem Upd.below {B : Nat} (h : Upd g a b) (hB : B ≤ g) (hs : B ≤ a.heap.size) : Below B a b :=
  ⟨h.os, h.tape, h.output, h.size, fun k hk => h.block k (by omega) (by omega)⟩
theorem Upd.blk {k : Nat} {t : TypeId} {cs : Array Value} (h : Upd g a b) (hm : Blk a k t cs) (hk : k ≠ g) : Blk b k t cs := (h.block k hm.lt hk).trans hm
end

/-- A table of n rows of eighteen whole numbers. -/
def Tab (cur : Array Value) (n : Nat) (st : Nat → Nat → Int) : Prop := ∀ i, i < n → ∀ j, j < 18 → cur[i * 18 + j]? = some (.int .i64 (st i j))
def put (st : Nat → Nat → Int) (i j : Nat) (u : Int) : Nat → Nat → Int := fun i' j' => if i' = i ∧ j' = j then u else st i' j'
theorem Tab.set {cur : Array Value} {n : Nat} {st : Nat → Nat → Int} (h : Tab cur n st) (i j : Nat) (hi : i < n) (hj : j < 18) (u : Int) :
    Tab (cur.setIfInBounds (i * 18 + j) (.int .i64 u)) n (put st i j u) := by
  intro i' hi' j' hj'
  have h0 := h i' hi' j' hj'
  unfold put
  rw [Array.getElem?_setIfInBounds]
  have hlt : i' * 18 + j' < cur.size := by
    rcases Nat.lt_or_ge (i' * 18 + j') cur.size with hl | hl
    · exact hl
    · rw [Array.getElem?_eq_none hl] at h0; cases h0
  by_cases e : i' = i ∧ j' = j
  · obtain ⟨rfl, rfl⟩ := e
    rw [if_pos rfl, if_pos hlt, if_pos ⟨rfl, rfl⟩]
  · rw [if_neg (by omega), if_neg e]; exact h0
theorem Tab.congr {cur : Array Value} {n : Nat} {st st' : Nat → Nat → Int} (h : Tab cur n st) (he : ∀ i, i < n → ∀ j, j < 18 → st i j = st' i j) : Tab cur n st' :=
  fun i hi j hj => by rw [← he i hi j hj]; exact h i hi j hj

theorem see_same (g off : Nat) (cur : Array Value) (x t : Int) (w : World) (hb : Blk w g 51 cur) (h0 : cur[off]? = some (.int .i64 x)) (h1 : cur[off + 1]? = some (.int .i64 t)) (ht0 : 0 ≤ t) (ht1 : t ≤ 1000) :
    Calls Try.prog 18 #[.pointer (some ⟨g, off, none⟩), .int .i64 x] w fun e w' => e = .returned (.tuple #[]) ∧ w' = w.setCell ⟨g, off + 1, none⟩ (.int .i64 (min (t + 1) 1000)) := by
  have c0 := (hb.cell off).trans h0
  have c1 := (hb.cell (off + 1)).trans h1
  have f0 := hb.fz off
  have f1 := hb.fz (off + 1)
  clear h0 h1
  go_enter Try.func18, Try.ntmps18
  go_wp2
  go_end0
  exact ⟨rfl, rfl⟩


theorem see_diff (g off : Nat) (cur : Array Value) (v x t : Int) (w : World) (hb : Blk w g 51 cur) (h0 : cur[off]? = some (.int .i64 v)) (h1 : cur[off + 1]? = some (.int .i64 t)) (hne : v ≠ x) :
    Calls Try.prog 18 #[.pointer (some ⟨g, off, none⟩), .int .i64 x] w fun e w' => e = .returned (.tuple #[]) ∧ w' = (((w.setCell ⟨g, off, none⟩ (.int .i64 x)).setCell ⟨g, off + 1, none⟩ (.int .i64 0)).setCell ⟨g, off + 1, none⟩ (.int .i64 1)) := by
  have c0 := (hb.cell off).trans h0
  have c1 := (hb.cell (off + 1)).trans h1
  have f0 := hb.fz off
  have f1 := hb.fz (off + 1)
  have hne' : (v == x) = false := by simp [hne]
  have hne2 : (v != x) = true := by simp [hne]
  have hu48 := Try.underlying48
  clear h0 h1
  go_enter Try.func18, Try.ntmps18
  go_wp2
  go_end0
  exact ⟨rfl, rfl⟩

/-- A table behind a value that was seen by parameter k of function i. -/
def seen (st : Nat → Nat → Int) (i k : Nat) (x : Int) : Nat → Nat → Int :=
  put (put st i (2 + k * 2) x) i (2 + k * 2 + 1) (if st i (2 + k * 2) = x then min (st i (2 + k * 2 + 1) + 1) 1000 else 1)

theorem seen_any (g n i k : Nat) (cur : Array Value) (st : Nat → Nat → Int) (x : Int) (off : Nat) (hoff : off = i * 18 + (2 + k * 2)) (w : World) (hb : Blk w g 51 cur) (hT : Tab cur n st) (hi : i < n) (hk : k < 8)
    (ht0 : 0 ≤ st i (2 + k * 2 + 1)) (ht1 : st i (2 + k * 2 + 1) ≤ 1000) :
    Calls Try.prog 18 #[.pointer (some ⟨g, off, none⟩), .int .i64 x] w fun e w' => e = .returned (.tuple #[]) ∧ ∃ cur', cur'.size = cur.size ∧ Blk w' g 51 cur' ∧ Tab cur' n (seen st i k x) ∧ Upd g w w' := by
  have h0 := hT i hi (2 + k * 2) (by omega)
  have h1 := hT i hi (2 + k * 2 + 1) (by omega)
  subst hoff
  unfold seen
  by_cases he : st i (2 + k * 2) = x
  · refine (see_same g _ cur x _ w hb (h0.trans (by rw [he])) h1 ht0 ht1).mono ?_
    rintro e w' ⟨rfl, rfl⟩
    refine ⟨rfl, _, by simp, hb.set _ _, ?_, (Upd.refl _ _).setCell _ _⟩
    rw [if_pos he]
    refine (hT.set i (2 + k * 2 + 1) hi (by omega) _).congr fun a ha b hb => ?_
    unfold put
    split
    · rfl
    · split
      · rename_i h; rw [h.1, h.2]; exact he
      · rfl
  · refine (see_diff g _ cur _ x _ w hb h0 h1 he).mono ?_
    rintro e w' ⟨rfl, rfl⟩
    refine ⟨rfl, _, ?_, ((hb.set _ _).set _ _).set _ _, ?_, (((Upd.refl _ _).setCell _ _).setCell _ _).setCell _ _⟩
    · simp
    rw [if_neg he]
    refine (((hT.set i (2 + k * 2) hi (by omega) x).set i (2 + k * 2 + 1) hi (by omega) 0).set i (2 + k * 2 + 1) hi (by omega) 1).congr fun a ha b hb => ?_
    unfold put
    split <;> rfl

/-- Where the functions lie: nowhere, if there is none. -/
def adr (gl n : Nat) : Option Addr := if n = 0 then none else some ⟨gl, 0, none⟩

/-- A profile: its own block, the block of its n functions, what these hold. -/
structure IsP (w : World) (gp gl n cap : Nat) (st : Nat → Nat → Int) : Prop where
  own : Blk w gp 46 #[.slice (adr gl n) n cap]
  rows : 0 < n → ∃ cur, Blk w gl 51 cur ∧ Tab cur n st
  fit : n ≤ 1000000
  good : ∀ i, i < n → (0 ≤ st i 0 ∧ st i 0 ≤ 8) ∧ (0 ≤ st i 1 ∧ st i 1 ≤ 1000) ∧ ∀ k, k < 8 → 0 ≤ st i (2 + k * 2 + 1) ∧ st i (2 + k * 2 + 1) ≤ 1000

theorem of_yes (gp gl n cap : Nat) (st : Nat → Nat → Int) (fn : Int) (i : Nat) (hfi : fn = i) (w : World) (h : IsP w gp gl n cap st) (hi : i < n) :
    Calls Try.prog 17 #[.pointer (some ⟨gp, 0, none⟩), .int .i64 fn] w fun e w' => e = .returned (.pointer (some ⟨gl, i * 18, none⟩)) ∧ w' = w := by
  subst hfi
  have c0 := h.own.cell 0
  have hn := h.fit
  rw [show adr gl n = some ⟨gl, 0, none⟩ from if_neg (by omega)] at c0
  have hc0 : w.cell? ⟨gp, 0, none⟩ = some (.slice (some ⟨gl, 0, none⟩) n cap) := c0
  clear c0 h
  go_enter Try.func17, Try.ntmps17
  go_wp2
  go_ret
  exact ⟨rfl, rfl⟩

theorem of_no (gp gl n cap : Nat) (st : Nat → Nat → Int) (fn : Int) (w : World) (h : IsP w gp gl n cap st) (hi : fn < 0 ∨ (n : Int) ≤ fn) :
    Calls Try.prog 17 #[.pointer (some ⟨gp, 0, none⟩), .int .i64 fn] w fun e w' => e = .returned (.pointer none) ∧ w' = w := by
  have c0 := h.own.cell 0
  have hn := h.fit
  generalize adr gl n = A at c0
  have hc0 : w.cell? ⟨gp, 0, none⟩ = some (.slice A n cap) := c0
  clear c0 h
  rcases hi with hi | hi
  · go_enter Try.func17, Try.ntmps17
    go_wp2
    go_ret
    exact ⟨rfl, rfl⟩
  · have hi0 : 0 ≤ fn := by omega
    go_enter Try.func17, Try.ntmps17
    go_wp2
    go_ret
    exact ⟨rfl, rfl⟩


theorem IsP.cell {w : World} {gp gl n cap : Nat} {st : Nat → Nat → Int} (h : IsP w gp gl n cap st) {i j : Nat} (hi : i < n) (hj : j < 18) : w.cell? ⟨gl, i * 18 + j, none⟩ = some (.int .i64 (st i j)) := by
  obtain ⟨cur, hb, hT⟩ := h.rows (by omega)
  exact (hb.cell _).trans (hT i hi j hj)
theorem IsP.fz {w : World} {gp gl n cap : Nat} {st : Nat → Nat → Int} (h : IsP w gp gl n cap st) (hn : 0 < n) (k : Nat) : w.frozen? ⟨gl, k, none⟩ = false := by
  obtain ⟨cur, hb, hT⟩ := h.rows hn
  exact hb.fz _

theorem calls_yes (gp gl n cap : Nat) (st : Nat → Nat → Int) (fn : Int) (i : Nat) (hfi : fn = i) (w : World) (h : IsP w gp gl n cap st) (hi : i < n) :
    Calls Try.prog 12 #[.pointer (some ⟨gp, 0, none⟩), .int .i64 fn] w fun e w' => e = .returned (.int .i64 (st i 1)) ∧ w' = w := by
  subst hfi
  have c1 := h.cell hi (j := 1) (by omega)
  go_enter Try.func12, Try.ntmps12
  go_wp2_with fail
  refine (of_yes gp gl n cap st _ i rfl _ h hi).mono ?_
  rintro e w' ⟨rfl, rfl⟩
  go_wp2_with fail
  go_ret
  exact ⟨rfl, rfl⟩
theorem calls_no (gp gl n cap : Nat) (st : Nat → Nat → Int) (fn : Int) (w : World) (h : IsP w gp gl n cap st) (hi : fn < 0 ∨ (n : Int) ≤ fn) :
    Calls Try.prog 12 #[.pointer (some ⟨gp, 0, none⟩), .int .i64 fn] w fun e w' => e = .returned (.int .i64 0) ∧ w' = w := by
  have HI := hid hi
  clear hi
  go_enter Try.func12, Try.ntmps12
  go_wp2_with fail
  refine (of_no gp gl n cap st fn _ h HI.out).mono ?_
  rintro e w' ⟨rfl, rfl⟩
  go_wp2_with fail
  go_ret
  exact ⟨rfl, rfl⟩

theorem value_no (gp gl n cap : Nat) (st : Nat → Nat → Int) (fn k : Int) (w : World) (h : IsP w gp gl n cap st) (hi : fn < 0 ∨ (n : Int) ≤ fn) :
    Calls Try.prog 14 #[.pointer (some ⟨gp, 0, none⟩), .int .i64 fn, .int .i64 k] w fun e w' => e = .returned (.tuple #[.int .i64 0, .int .i64 0]) ∧ w' = w := by
  have HI := hid hi
  clear hi
  go_enter Try.func14, Try.ntmps14
  go_wp2_with fail
  refine (of_no gp gl n cap st fn _ h HI.out).mono ?_
  rintro e w' ⟨rfl, rfl⟩
  go_wp2_with fail
  go_ret2
  exact ⟨rfl, rfl⟩

theorem value_out (gp gl n cap : Nat) (st : Nat → Nat → Int) (fn : Int) (i : Nat) (hfi : fn = i) (k : Int) (w : World) (h : IsP w gp gl n cap st) (hi : i < n) (hk : k < 0 ∨ st i 0 ≤ k) :
    Calls Try.prog 14 #[.pointer (some ⟨gp, 0, none⟩), .int .i64 fn, .int .i64 k] w fun e w' => e = .returned (.tuple #[.int .i64 0, .int .i64 0]) ∧ w' = w := by
  subst hfi
  have c1 : w.cell? ⟨gl, i * 18, none⟩ = some (.int .i64 (st i 0)) := by simpa using h.cell hi (j := 0) (by omega)
  generalize st i 0 = m at c1 hk
  rcases hk with hk | hk
  · go_enter Try.func14, Try.ntmps14
    go_wp2_with fail
    refine (of_yes gp gl n cap st _ i rfl _ h hi).mono ?_
    rintro e w' ⟨rfl, rfl⟩
    go_wp2_with fail
    go_ret2
    exact ⟨rfl, rfl⟩
  · by_cases hk0 : k < 0
    · go_enter Try.func14, Try.ntmps14
      go_wp2_with fail
      refine (of_yes gp gl n cap st _ i rfl _ h hi).mono ?_
      rintro e w' ⟨rfl, rfl⟩
      go_wp2_with fail
      go_ret2
      exact ⟨rfl, rfl⟩
    · have hk1 : 0 ≤ k := by omega
      clear hk0
      go_enter Try.func14, Try.ntmps14
      go_wp2_with fail
      refine (of_yes gp gl n cap st _ i rfl _ h hi).mono ?_
      rintro e w' ⟨rfl, rfl⟩
      go_wp2_with fail
      go_ret2
      exact ⟨rfl, rfl⟩

theorem value_yes (gp gl n cap : Nat) (st : Nat → Nat → Int) (fn : Int) (i : Nat) (hfi : fn = i) (kk : Int) (k : Nat) (hkk : kk = k) (w : World) (h : IsP w gp gl n cap st) (hi : i < n) (hk : (k : Int) < st i 0) (h8 : st i 0 ≤ 8) :
    Calls Try.prog 14 #[.pointer (some ⟨gp, 0, none⟩), .int .i64 fn, .int .i64 kk] w fun e w' => e = .returned (.tuple #[.int .i64 (st i (2 + k * 2)), .int .i64 (st i (2 + k * 2 + 1))]) ∧ ∃ m, w' = w.drewN m := by
  subst hkk hfi
  have hk8 : k < 8 := by omega
  have hk8' : (k : Int) < 8 := by omega
  have c1 : w.cell? ⟨gl, i * 18, none⟩ = some (.int .i64 (st i 0)) := by simpa using h.cell hi (j := 0) (by omega)
  have c2 : w.cell? ⟨gl, i * 18 + 2 + k * 2, none⟩ = some (.int .i64 (st i (2 + k * 2))) := by
    have := h.cell hi (j := 2 + k * 2) (by omega)
    rwa [show i * 18 + (2 + k * 2) = i * 18 + 2 + k * 2 from by omega] at this
  have c3 : w.cell? ⟨gl, i * 18 + 2 + k * 2 + 1, none⟩ = some (.int .i64 (st i (2 + k * 2 + 1))) := by
    have := h.cell hi (j := 2 + k * 2 + 1) (by omega)
    rwa [show i * 18 + (2 + k * 2 + 1) = i * 18 + 2 + k * 2 + 1 from by omega] at this
  generalize st i 0 = m at c1 hk h8
  go_enter Try.func14, Try.ntmps14
  go_wp2_with fail
  refine (of_yes gp gl n cap st _ i rfl _ h hi).mono ?_
  rintro e w' ⟨rfl, rfl⟩
  go_wp2_with fail
  go_quiet (fail)
  go_wp2_with fail
  go_ret2
  exact ⟨rfl, nq, rfl⟩


/-- A slice of m elements that read as f. -/
def Row (w : World) (A : Option Addr) (m : Nat) (f : Nat → Value) : Prop := ∀ i, i < m → ∃ b off, A = some ⟨b, off, none⟩ ∧ w.cell? ⟨b, off + i, none⟩ = some (f i)

/-- A table behind a call of function i with the first k of the values x. -/
def sees (st : Nat → Nat → Int) (i : Nat) (x : Nat → Int) : Nat → Nat → Nat → Int
  | 0 => put st i 1 (min (st i 1 + 1) 1000)
  | k + 1 => seen (sees st i x k) i k (x k)

/-- What a call makes of a table, in one word. -/
def after (st : Nat → Nat → Int) (i : Nat) (x : Nat → Int) (m : Nat) : Nat → Nat → Int := fun i' j =>
  if i' = i then
    if j = 1 then min (st i 1 + 1) 1000
    else if 2 ≤ j ∧ j < 2 + m * 2 then
      if j % 2 = 0 then x ((j - 2) / 2) else if st i (j - 1) = x ((j - 2) / 2) then min (st i j + 1) 1000 else 1
    else st i j
  else st i' j

section
variable (st : Nat → Nat → Int) (i : Nat) (x : Nat → Int) (m : Nat)
theorem after_other {i' : Nat} (h : i' ≠ i) (j : Nat) : after st i x m i' j = st i' j := if_neg h
theorem after_calls : after st i x m i 1 = min (st i 1 + 1) 1000 := by simp [after]
theorem after_par : after st i x m i 0 = st i 0 := by simp [after]
theorem after_rest {j : Nat} (h : 2 + m * 2 ≤ j) : after st i x m i j = st i j := by
  have h1 : ¬ j = 1 := by omega
  have h2 : ¬ (2 ≤ j ∧ j < 2 + m * 2) := by omega
  simp only [after, if_neg h1, if_neg h2, if_true]
theorem after_val {k : Nat} (h : k < m) : after st i x m i (2 + k * 2) = x k := by
  have h1 : ¬ 2 + k * 2 = 1 := by omega
  have h2 : 2 ≤ 2 + k * 2 ∧ 2 + k * 2 < 2 + m * 2 := by omega
  have h3 : (2 + k * 2) % 2 = 0 := by omega
  have h4 : (2 + k * 2 - 2) / 2 = k := by omega
  simp only [after, if_neg h1, if_pos h2, if_pos h3, h4, if_true]
theorem after_tim {k : Nat} (h : k < m) : after st i x m i (2 + k * 2 + 1) = if st i (2 + k * 2) = x k then min (st i (2 + k * 2 + 1) + 1) 1000 else 1 := by
  have h1 : ¬ 2 + k * 2 + 1 = 1 := by omega
  have h2 : 2 ≤ 2 + k * 2 + 1 ∧ 2 + k * 2 + 1 < 2 + m * 2 := by omega
  have h3 : ¬ (2 + k * 2 + 1) % 2 = 0 := by omega
  have h4 : (2 + k * 2 + 1 - 2) / 2 = k := by omega
  have h5 : 2 + k * 2 + 1 - 1 = 2 + k * 2 := by omega
  simp only [after, if_neg h1, if_pos h2, if_neg h3, h4, h5, if_true]
end

theorem place (j m : Nat) : j = 0 ∨ j = 1 ∨ (∃ k, k < m ∧ j = 2 + k * 2) ∨ (∃ k, k < m ∧ j = 2 + k * 2 + 1) ∨ 2 + m * 2 ≤ j := by
  by_cases h : 2 + m * 2 ≤ j
  · exact .inr (.inr (.inr (.inr h)))
  · by_cases h0 : j < 2
    · omega
    · by_cases he : j % 2 = 0
      · exact .inr (.inr (.inl ⟨(j - 2) / 2, by omega, by omega⟩))
      · exact .inr (.inr (.inr (.inl ⟨(j - 2) / 2, by omega, by omega⟩)))

theorem put_same (st : Nat → Nat → Int) (i j : Nat) (u : Int) : put st i j u i j = u := if_pos ⟨rfl, rfl⟩
theorem put_other (st : Nat → Nat → Int) {i j i' j' : Nat} (u : Int) (h : ¬ (i' = i ∧ j' = j)) : put st i j u i' j' = st i' j' := if_neg h

theorem sees_after (st : Nat → Nat → Int) (i : Nat) (x : Nat → Int) (m : Nat) (i' j : Nat) : sees st i x m i' j = after st i x m i' j := by
  induction m generalizing i' j with
  | zero =>
    show put st i 1 _ i' j = _
    by_cases h : i' = i
    · subst h
      rcases place j 0 with h1 | h1 | ⟨k, h1, _⟩ | ⟨k, h1, _⟩ | h1
      · subst h1; rw [put_other _ _ (by omega), after_par]
      · subst h1; rw [put_same, after_calls]
      · omega
      · omega
      · rw [put_other _ _ (by omega), after_rest _ _ _ _ h1]
    · rw [put_other _ _ (by omega), after_other _ _ _ _ h]
  | succ m ih =>
    show put (put _ i (2 + m * 2) _) i (2 + m * 2 + 1) _ i' j = _
    rw [ih, ih, after_rest _ _ _ _ (Nat.le_refl _), after_rest _ _ _ _ (Nat.le_succ _)]
    by_cases h : i' = i
    · subst h
      rcases place j (m + 1) with h1 | h1 | ⟨k, h1, h2⟩ | ⟨k, h1, h2⟩ | h1
      · subst h1; rw [put_other _ _ (by omega), put_other _ _ (by omega), ih, after_par, after_par]
      · subst h1; rw [put_other _ _ (by omega), put_other _ _ (by omega), ih, after_calls, after_calls]
      · subst h2
        rw [after_val _ _ _ _ h1, put_other _ _ (by omega)]
        by_cases hk : k = m
        · subst hk; rw [put_same]
        · rw [put_other _ _ (by omega), ih, after_val _ _ _ _ (by omega)]
      · subst h2
        rw [after_tim _ _ _ _ h1]
        by_cases hk : k = m
        · subst hk; rw [put_same]
        · rw [put_other _ _ (by omega), put_other _ _ (by omega), ih, after_tim _ _ _ _ (by omega)]
      · rw [put_other _ _ (by omega), put_other _ _ (by omega), ih, after_rest _ _ _ _ (by omega), after_rest _ _ _ _ h1]
    · rw [put_other _ _ (by omega), put_other _ _ (by omega), ih, after_other _ _ _ _ h, after_other _ _ _ _ h]

/-- A good table stays good. -/
def Good (st : Nat → Nat → Int) (n : Nat) : Prop := ∀ i, i < n → (0 ≤ st i 0 ∧ st i 0 ≤ 8) ∧ (0 ≤ st i 1 ∧ st i 1 ≤ 1000) ∧ ∀ k, k < 8 → 0 ≤ st i (2 + k * 2 + 1) ∧ st i (2 + k * 2 + 1) ≤ 1000
theorem Good.after {st : Nat → Nat → Int} {n : Nat} (h : Good st n) (i : Nat) (x : Nat → Int) (m : Nat) : Good (after st i x m) n := by
  intro i' hi'
  obtain ⟨h1, h2, h3⟩ := h i' hi'
  by_cases e : i' = i
  · subst e
    rw [after_par, after_calls]
    refine ⟨h1, by omega, fun k hk => ?_⟩
    have := h3 k hk
    by_cases hkm : k < m
    · rw [after_tim _ _ _ _ hkm]; split <;> omega
    · rw [after_rest _ _ _ _ (by omega)]; exact this
  · simp only [after_other _ _ _ _ e]; exact ⟨h1, h2, h3⟩

theorem see_none (gp gl n cap : Nat) (st : Nat → Nat → Int) (fn : Int) (A : Option Addr) (m c : Nat) (w : World) (h : IsP w gp gl n cap st) (hi : fn < 0 ∨ (n : Int) ≤ fn) :
    Calls Try.prog 11 #[.pointer (some ⟨gp, 0, none⟩), .int .i64 fn, .slice A m c] w fun e w' => e = .returned (.int .i64 11) ∧ w' = w := by
  have HI := hid hi
  clear hi
  go_enter Try.func11, Try.ntmps11
  go_wp2_with fail
  refine (of_no gp gl n cap st fn _ h HI.out).mono ?_
  rintro e w' ⟨rfl, rfl⟩
  go_wp2_with fail
  go_ret
  exact ⟨rfl, rfl⟩

theorem see_arg (gp gl n cap : Nat) (st : Nat → Nat → Int) (fn : Int) (i : Nat) (hfi : fn = i) (A : Option Addr) (m c : Nat) (w : World) (h : IsP w gp gl n cap st) (hi : i < n) (hm : (m : Int) ≠ st i 0) :
    Calls Try.prog 11 #[.pointer (some ⟨gp, 0, none⟩), .int .i64 fn, .slice A m c] w fun e w' => e = .returned (.int .i64 1) ∧ w' = w := by
  subst hfi
  have c1 : w.cell? ⟨gl, i * 18, none⟩ = some (.int .i64 (st i 0)) := by simpa using h.cell hi (j := 0) (by omega)
  generalize st i 0 = q at c1 hm
  have hb : ((m : Int) != q) = true := by simp [hm]
  have hb2 : ((m : Int) == q) = false := by simp [hm]
  go_enter Try.func11, Try.ntmps11
  go_wp2_with fail
  refine (of_yes gp gl n cap st _ i rfl _ h hi).mono ?_
  rintro e w' ⟨rfl, rfl⟩
  go_wp2_with fail
  go_ret
  exact ⟨rfl, rfl⟩

set_option maxHeartbeats 1000000 in
theorem see_ok0 (gp gl n cap : Nat) (st : Nat → Nat → Int) (fn : Int) (i : Nat) (hfi : fn = i) (A : Option Addr) (m c : Nat) (x : Nat → Int) (w : World) (h : IsP w gp gl n cap st) (hi : i < n) (hm : (m : Int) = st i 0)
    (hA : Row w A m (fun j => .int .i64 (x j))) (hne : ∀ b off, 0 < m → A = some ⟨b, off, none⟩ → b ≠ gl) (hgp : gp ≠ gl) :
    Calls Try.prog 11 #[.pointer (some ⟨gp, 0, none⟩), .int .i64 fn, .slice A m c] w fun e w' => e = .returned (.int .i64 0) ∧ IsP w' gp gl n cap (after st i x m) ∧ Upd gl w w' := by
  subst hfi
  obtain ⟨⟨hp0, hp1⟩, ⟨hc0, hc1⟩, hrun⟩ := h.good i hi
  have HA := hid hA
  have HN := hid hne
  have HR := hid hrun
  have HM := hid hm
  clear hA hne hrun
  have c0 : w.cell? ⟨gl, i * 18, none⟩ = some (.int .i64 (st i 0)) := by simpa using h.cell hi (j := 0) (by omega)
  have c1 := h.cell hi (j := 1) (by omega)
  rw [← hm] at c0
  have hm8 : m ≤ 8 := by omega
  clear hm hp0 hp1
  have hf1 := h.fz (by omega) (i * 18 + 1)
  go_enter Try.func11, Try.ntmps11
  go_wp2_with fail
  refine (of_yes gp gl n cap st _ i rfl _ h hi).mono ?_
  rintro e w' ⟨rfl, rfl⟩
  go_wp2_with fail
  obtain ⟨cur, hb, hT⟩ := h.rows (by omega)
  go_loopw [35] (fun q wr => ∃ (k : Nat) (cur' : Array Value), k ≤ m ∧ q = .int .i64 k ∧ Blk wr gl 51 cur' ∧ Tab cur' n (sees st i x k) ∧ Upd gl w' wr)
    (fun q _ => m - (intOf q).toNat)
  case atStart => exact ⟨0, _, Nat.zero_le _, rfl, hb.set _ _, hT.set i 1 hi (by omega) _, (Upd.refl _ _).setCell _ _⟩
  case round =>
    obtain ⟨k, cur', hk, rfl, hb', hT', hu⟩ := hrel
    by_cases hlt : k < m
    · obtain ⟨b, off, rfl, hc⟩ := HA.out k hlt
      have hbl : b ≠ gl := HN.out b off (by omega) rfl
      have hbs : b < w'.heap.size := World.block_lt_of_cell? _ _ hc
      have hc' : wr.cell? ⟨b, off + k, none⟩ = some (.int .i64 (x k)) := (World.cell?_of_block (w := w') (a := ⟨b, off + k, none⟩) (hu.block b hbs hbl)).trans hc
      clear hc
      have hk8 : (k : Int) < 8 := by omega
      go_wp2_with fail
      have h3 := HR.out k (by omega)
      rw [← after_rest st i x k (by omega : 2 + k * 2 ≤ 2 + k * 2 + 1), ← sees_after] at h3
      refine (seen_any gl n i k cur' (sees st i x k) (x k) _ (by omega) _ hb' hT' hi (by omega) h3.1 h3.2).mono ?_
      rintro e w2 ⟨rfl, cur2, hs2, hb2, hT2, hu2⟩
      clear h3
      go_wp2_with fail
      go_roundw
      case rel => exact ⟨k + 1, cur2, by omega, by go_num, hb2, hT2, hu.trans hu2⟩
      case measure => simp [intOf]; omega
    · have hkm : k = m := by omega
      subst hkm
      go_wp2_with fail
      go_ret
      have hT2 : Tab cur' n (after st i x k) := hT'.congr fun a _ b _ => sees_after st i x k a b
      exact ⟨rfl, ⟨hu.blk h.own hgp, fun _ => ⟨cur', hb', hT2⟩, h.fit, Good.after h.good i x k⟩, hu⟩

theorem see_ok (gp gl n cap : Nat) (st : Nat → Nat → Int) (fn : Int) (i : Nat) (hfi : fn = i) (A : Option Addr) (m c : Nat) (x : Nat → Int) (w : World) (h : IsP w gp gl n cap st) (hi : i < n) (hm : (m : Int) = st i 0)
    (hA : Row w A m (fun j => .int .i64 (x j))) (hne : ∀ b off, A = some ⟨b, off, none⟩ → b ≠ gl) (hgp : gp ≠ gl) :
    Calls Try.prog 11 #[.pointer (some ⟨gp, 0, none⟩), .int .i64 fn, .slice A m c] w fun e w' => e = .returned (.int .i64 0) ∧ IsP w' gp gl n cap (after st i x m) ∧ Upd gl w w' :=
  see_ok0 gp gl n cap st fn i hfi A m c x w h hi hm hA (fun b off _ e => hne b off e) hgp

end Go.Proofs.Ytemdojckeghbjaa
