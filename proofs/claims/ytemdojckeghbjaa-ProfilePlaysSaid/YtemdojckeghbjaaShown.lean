/- The small case with which each statement of the profile begins returns true. Conditions: none. -/
import Derived.Test.YtemdojckeghbjaaNew
namespace Go.Proofs.Ytemdojckeghbjaa
open Go.RowKit
set_option linter.unusedVariables false

/-- A slice over a block of its own. -/
theorem Row.of_blk {w : World} {g : Nat} {t : TypeId} {cs : Array Value} (h : Blk w g t cs) {m : Nat} {f : Nat → Value} (hf : ∀ i, i < m → cs[i]? = some (f i)) : Row w (some ⟨g, 0, none⟩) m f :=
  fun i hi => ⟨g, 0, rfl, by rw [Nat.zero_add]; exact (h.cell i).trans (hf i hi)⟩
theorem Row.nil {w : World} {A : Option Addr} {f : Nat → Value} : Row w A 0 f := fun i hi => absurd hi (Nat.not_lt_zero i)

section
variable {w w' : World} {gp gl n cap : Nat} {st : Nat → Nat → Int}
theorem IsP.kept (h : IsP w gp gl n cap st) (hk : ∀ g, g < w.heap.size → (g = gp ∨ g = gl) → w'.heap[g]? = w.heap[g]?) : IsP w' gp gl n cap st := by
  refine ⟨?_, fun h0 => ?_, h.fit, h.good⟩
  · exact (hk gp h.own.lt (.inl rfl)).trans h.own
  · obtain ⟨cur, hb, hT⟩ := h.rows h0
    exact ⟨cur, (hk gl (Blk.lt hb) (.inr rfl)).trans hb, hT⟩
theorem IsP.alloc (h : IsP w gp gl n cap st) (o : Obj) : IsP (w.alloc o) gp gl n cap st := h.kept fun g hg _ => Below.heap_alloc w o g hg
theorem IsP.drewN (h : IsP w gp gl n cap st) (m : Nat) : IsP (w.drewN m) gp gl n cap st := h.kept fun g hg _ => rfl
theorem IsP.upd {g : Nat} (h : IsP w gp gl n cap st) (hu : Upd g w w') (h1 : gp ≠ g) (h2 : gl ≠ g) : IsP w' gp gl n cap st := h.kept fun k hk e => hu.block k hk (by rcases e with rfl | rfl <;> assumption)
theorem IsP.below {B : Nat} (h : IsP w gp gl n cap st) (hu : Below B w w') (h1 : gp < B) (h2 : gl < B) : IsP w' gp gl n cap st := h.kept fun k hk e => hu.block k (by rcases e with rfl | rfl <;> assumption)
theorem IsP.gl_lt (h : IsP w gp gl n cap st) (h0 : 0 < n) : gl < w.heap.size := by
  obtain ⟨cur, hb, _⟩ := h.rows h0
  exact Blk.lt hb
theorem IsP.gp_lt (h : IsP w gp gl n cap st) : gp < w.heap.size := h.own.lt
theorem IsP.congr (h : IsP w gp gl n cap st) {st' : Nat → Nat → Int} (he : ∀ i, i < n → ∀ j, j < 18 → st i j = st' i j) : IsP w gp gl n cap st' := by
  refine ⟨h.own, fun h0 => ?_, h.fit, fun i hi => ?_⟩
  · obtain ⟨cur, hb, hT⟩ := h.rows h0
    exact ⟨cur, hb, hT.congr he⟩
  · obtain ⟨h1, h2, h3⟩ := h.good i hi
    rw [← he i hi 0 (by omega), ← he i hi 1 (by omega)]
    exact ⟨h1, h2, fun k hk => by rw [← he i hi _ (by omega)]; exact h3 k hk⟩
end

theorem see_one (gp gl n cap : Nat) (st : Nat → Nat → Int) (fn : Int) (i : Nat) (hfi : fn = i) (x : Int) (w : World) (h : IsP w gp gl n cap st) (hi : i < n) (hm : st i 0 = 1) (hgp : gp ≠ gl) :
    Calls Try.prog 11 #[.pointer (some ⟨gp, 0, none⟩), .int .i64 fn, .slice (some ⟨w.heap.size, 0, none⟩) 1 1] (w.alloc (.cells #[.int .i64 x] 2)) fun e w' => e = .returned (.int .i64 0) ∧ IsP w' gp gl n cap (after st i (fun _ => x) 1) ∧ Upd gl (w.alloc (.cells #[.int .i64 x] 2)) w' := by
  refine see_ok gp gl n cap st fn i hfi (some ⟨w.heap.size, 0, none⟩) 1 1 (fun _ => x) _ (h.alloc _) hi (by rw [hm]; rfl) (Row.of_blk (Blk.new w 2 _) ?_) ?_ hgp
  · intro j hj
    match j, hj with
    | 0, _ => rfl
  · intro b off e
    have := h.gl_lt (by omega)
    injection e with e
    injection e with e
    omega

theorem Upd.below_alloc {g B : Nat} {w w' : World} {o : Obj} (h : Upd g (w.alloc o) w') (hB : B ≤ g) (hs : B ≤ w.heap.size) : Below B w w' :=
  ((Below.refl _ _).alloc hs o).trans (h.below hB (by simp; omega))

theorem value_at (gp gl n cap : Nat) (st : Nat → Nat → Int) (fn : Int) (i : Nat) (hfi : fn = i) (kk : Int) (k : Nat) (hkk : kk = k) (a b : Int) (w : World) (h : IsP w gp gl n cap st) (hi : i < n) (hk : (k : Int) < st i 0)
    (ha : st i (2 + k * 2) = a) (hb : st i (2 + k * 2 + 1) = b) :
    Calls Try.prog 14 #[.pointer (some ⟨gp, 0, none⟩), .int .i64 fn, .int .i64 kk] w fun e w' => e = .returned (.tuple #[.int .i64 a, .int .i64 b]) ∧ ∃ m, w' = w.drewN m := by
  subst ha hb
  exact value_yes gp gl n cap st fn i hfi kk k hkk w h hi hk (h.good i hi).1.2
theorem calls_at (gp gl n cap : Nat) (st : Nat → Nat → Int) (fn : Int) (i : Nat) (hfi : fn = i) (a : Int) (w : World) (h : IsP w gp gl n cap st) (hi : i < n) (ha : st i 1 = a) :
    Calls Try.prog 12 #[.pointer (some ⟨gp, 0, none⟩), .int .i64 fn] w fun e w' => e = .returned (.int .i64 a) ∧ w' = w := by
  subst ha
  exact calls_yes gp gl n cap st fn i hfi w h hi

/-- A row of n noughts. -/
def zeros (n : Nat) : Array Value := (List.replicate n (Value.int .i64 0)).toArray
theorem zeros_get (n i : Nat) (h : i < n) : (zeros n)[i]? = some (.int .i64 0) := by
  unfold zeros
  rw [List.getElem?_toArray, List.getElem?_replicate, if_pos h]
theorem info2 : (Try.prog.info? 2).map (fun i => (i.zero, i.size, i.bytes)) = some (some (.int .i64 0), 1, 8) := by kernel_rfl
theorem make_run (n : Nat) (hn : n ≤ 1000) (w : World) : (Instr.makeSlice 31 (.int .i64 (n : Int)) (.int .i64 (n : Int))).run Try.prog w = .ok (.slice (some ⟨w.heap.size, 0, none⟩) n n) (w.alloc (.cells (zeros n) 2)) := by
  obtain ⟨i0, hi, hz0, hz1, hz2⟩ := info_parts info2
  have h := run_make (P := Try.prog) w 31 2 i0 (.int .i64 0) Try.underlying31 hi hz0 .i64 .i64 n n (by omega) (by omega) (by rw [hz2]; omega) (by omega)
  rw [h]
  congr 3
  rw [hz1, Int.toNat_natCast, Nat.mul_one]
  apply Array.toList_inj.1
  exact toList_madeCells_one _ _

def z0 : Nat → Int := fun j => ([1, 0, -1, 9] : List Int).getD j 0

set_option maxRecDepth 100000 in
set_option maxHeartbeats 4000000 in
theorem shown_any (w : World) : Calls Try.prog 8 #[] w fun e w' => e = .returned (.bool true) ∧ Below w.heap.size w w' := by
  have hmk : ∀ w, (Instr.makeSlice 31 (.int .i64 8) (.int .i64 8)).run Try.prog w = .ok (.slice (some ⟨w.heap.size, 0, none⟩) 8 8) (w.alloc (.cells (zeros 8) 2)) := fun w => make_run 8 (by omega) w
  go_enter Try.func8, Try.ntmps8
  go_wp2_with fail
  have hz0 : ∀ i, i < 4 → (#[Value.int .i64 1, .int .i64 0, .int .i64 (-1), .int .i64 9] : Array Value)[i]? = some (.int .i64 (z0 i)) := by
    intro i hi
    match i, hi with
    | 0, _ => rfl
    | 1, _ => rfl
    | 2, _ => rfl
    | 3, _ => rfl
  refine (new_any _ 4 4 z0 _ (by omega) (Row.of_blk (Blk.new w 3 _) hz0)).mono ?_
  clear hz0
  rintro e w1 ⟨rfl, gl, cap, hP, hgl, hB⟩
  have hB : Below w.heap.size w w1 := ((Below.refl _ _).alloc (Nat.le_refl _) _).trans (hB.mono (by simp))
  have hgp : w.heap.size < (w.alloc (Obj.cells #[Value.int IntKind.i64 1, Value.int IntKind.i64 0, Value.int IntKind.i64 (-1), Value.int IntKind.i64 9] 3)).heap.size := by simp
  generalize (w.alloc (Obj.cells #[Value.int IntKind.i64 1, Value.int IntKind.i64 0, Value.int IntKind.i64 (-1), Value.int IntKind.i64 9] 3)).heap.size = gp at hP hgl hgp ⊢
  go_wp2_with fail
  refine (see_one gp gl 4 cap _ 0 0 rfl 7 _ hP (by omega) (by decide) (by omega)).mono ?_
  rintro e w2 ⟨rfl, hP', hU⟩
  have hB := hB.trans (hU.below_alloc (by omega) hB.size)
  clear hP
  have hP := hP'
  clear hP' hU
  go_wp2_with fail
  refine (see_one gp gl 4 cap _ 0 0 rfl 7 _ hP (by omega) (by decide) (by omega)).mono ?_
  rintro e w3 ⟨rfl, hP', hU⟩
  have hB := hB.trans (hU.below_alloc (by omega) hB.size)
  clear hP
  have hP := hP'
  clear hP' hU
  go_wp2_with fail
  refine (see_one gp gl 4 cap _ 0 0 rfl 8 _ hP (by omega) (by decide) (by omega)).mono ?_
  rintro e w4 ⟨rfl, hP', hU⟩
  have hB := hB.trans (hU.below_alloc (by omega) hB.size)
  clear hP
  have hP := hP'
  clear hP' hU
  go_wp2_with fail
  refine (see_one gp gl 4 cap _ 0 0 rfl 8 _ hP (by omega) (by decide) (by omega)).mono ?_
  rintro e w5 ⟨rfl, hP', hU⟩
  have hB := hB.trans (hU.below_alloc (by omega) hB.size)
  clear hP
  have hP := hP'
  clear hP' hU
  go_wp2_with fail
  refine (see_arg gp gl 4 cap _ 0 0 rfl none 0 0 _ hP (by omega) (by decide)).mono ?_
  rintro e w6 ⟨rfl, rfl⟩
  go_wp2_with fail
  refine (see_none gp gl 4 cap _ 4 none 0 0 _ hP (by omega)).mono ?_
  rintro e w7 ⟨rfl, rfl⟩
  go_wp2_with fail
  refine (see_ok gp gl 4 cap _ 2 2 rfl none 0 0 (fun _ => 0) _ hP (by omega) (by decide) Row.nil (fun b off e => by cases e) (by omega)).mono ?_
  rintro e w8 ⟨rfl, hP', hU⟩
  have hB := hB.trans (hU.below (by omega) hB.size)
  clear hP
  have hP := hP'
  clear hP' hU
  go_wp2_with fail
  refine (see_ok gp gl 4 cap _ 3 3 rfl (some ⟨w8.heap.size, 0, none⟩) 8 8 (fun _ => 0) _ (hP.alloc _) (by omega) (by decide) (Row.of_blk (Blk.new w8 2 _) (fun i hi => zeros_get 8 i hi)) ?_ (by omega)).mono ?_
  · intro b off e
    have := hP.gl_lt (by omega)
    injection e with e
    injection e with e
    omega
  rintro e w9 ⟨rfl, hP', hU⟩
  have hB := hB.trans (hU.below_alloc (by omega) hB.size)
  clear hP
  have hP := hP'
  clear hP' hU
  go_wp2_with fail
  refine (value_at gp gl 4 cap _ 0 0 rfl 0 0 rfl 8 2 _ hP (by omega) (by decide) (by decide) (by decide)).mono ?_
  rintro e w10 ⟨rfl, m10, rfl⟩
  go_wp2_with fail
  refine (value_out gp gl 4 cap _ 1 1 rfl 0 _ (hP.drewN _) (by omega) (by decide)).mono ?_
  rintro e w11 ⟨rfl, rfl⟩
  go_wp2_with fail
  refine (value_at gp gl 4 cap _ 3 3 rfl 7 7 rfl 0 1 _ (hP.drewN _) (by omega) (by decide) (by decide) (by decide)).mono ?_
  rintro e w12 ⟨rfl, m12, rfl⟩
  go_wp2_with fail
  refine (calls_at gp gl 4 cap _ 0 0 rfl 4 _ (hP.drewN _) (by omega) (by decide)).mono ?_
  rintro e w13 ⟨rfl, rfl⟩
  go_wp2_with fail
  refine (calls_no gp gl 4 cap _ (-1) _ (hP.drewN _) (by omega)).mono ?_
  rintro e w14 ⟨rfl, rfl⟩
  go_wp2_with fail
  go_ret
  exact ⟨rfl, ⟨hB.os, hB.tape, hB.output, hB.size, hB.block⟩⟩
end Go.Proofs.Ytemdojckeghbjaa
