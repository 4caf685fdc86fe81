/- One contract for each call of a profile, whatever it is handed; the steps that came in. Conditions: none. -/
import Derived.Test.YtemdojckeghbjaaMore
namespace Go.Proofs.Ytemdojckeghbjaa
open Go.RowKit
set_option linter.unusedVariables false

/-- What See answers and makes, what Calls and Value answer. -/
def seeE (n : Nat) (st : Nat → Nat → Int) (fn : Int) (q : Nat) : Int := if fn < 0 ∨ (n : Int) ≤ fn then 11 else if (q : Int) = st fn.toNat 0 then 0 else 1
def seeS (n : Nat) (st : Nat → Nat → Int) (fn : Int) (x : Nat → Int) (q : Nat) : Nat → Nat → Int := if fn < 0 ∨ (n : Int) ≤ fn then st else if (q : Int) = st fn.toNat 0 then after st fn.toNat x q else st
def callsV (n : Nat) (st : Nat → Nat → Int) (fn : Int) : Int := if fn < 0 ∨ (n : Int) ≤ fn then 0 else st fn.toNat 1
def valV (n : Nat) (st : Nat → Nat → Int) (fn k : Int) : Int := if fn < 0 ∨ (n : Int) ≤ fn then 0 else if k < 0 ∨ st fn.toNat 0 ≤ k then 0 else st fn.toNat (2 + k.toNat * 2)
def valT (n : Nat) (st : Nat → Nat → Int) (fn k : Int) : Int := if fn < 0 ∨ (n : Int) ≤ fn then 0 else if k < 0 ∨ st fn.toNat 0 ≤ k then 0 else st fn.toNat (2 + k.toNat * 2 + 1)

/-- The functions' block alone may have been written, if there are functions; else nothing. -/
def UpdN (n gl : Nat) (w w' : World) : Prop := ∀ g, (0 < n → g = gl) → Upd g w w'
theorem UpdN.refl (n gl : Nat) (w : World) : UpdN n gl w w := fun g _ => Upd.refl g w
theorem UpdN.of {n gl : Nat} {w w' : World} (h : Upd gl w w') (hn : 0 < n) : UpdN n gl w w' := fun g hg => by rw [hg hn]; exact h
theorem UpdN.size {n gl : Nat} {w w' : World} (h : UpdN n gl w w') : w.heap.size ≤ w'.heap.size := (h gl (fun _ => rfl)).size
theorem UpdN.block {n gl : Nat} {w w' : World} (h : UpdN n gl w w') {k : Nat} (hk : k < w.heap.size) (hne : 0 < n → k ≠ gl) : w'.heap[k]? = w.heap[k]? := by
  by_cases hn : 0 < n
  · exact (h gl (fun _ => rfl)).block k hk (hne hn)
  · exact (h (k + 1) (fun h => absurd h hn)).block k hk (by omega)
theorem UpdN.cell {n gl : Nat} {w w' : World} (h : UpdN n gl w w') {p : Addr} (hk : p.block < w.heap.size) (hne : 0 < n → p.block ≠ gl) : w'.cell? p = w.cell? p := World.cell?_of_block (w := w) (h.block hk hne)
theorem UpdN.below {n gl B : Nat} {w w' : World} (h : UpdN n gl w w') (hB : 0 < n → B ≤ gl) (hs : B ≤ w.heap.size) : Below B w w' := by
  by_cases hn : 0 < n
  · exact (h gl (fun _ => rfl)).below (hB hn) hs
  · exact (h B (fun h => absurd h hn)).below (Nat.le_refl _) hs
theorem UpdN.isP {n gl gp' gl' n' cap : Nat} {st : Nat → Nat → Int} {w w' : World} (h : UpdN n gl w w') (hp : IsP w gp' gl' n' cap st) (h1 : 0 < n → gp' ≠ gl) (h2 : 0 < n → gl' ≠ gl) : IsP w' gp' gl' n' cap st :=
  hp.kept fun g hg e => h.block hg (fun hn => by rcases e with rfl | rfl; exact h1 hn; exact h2 hn)

section
variable (gp gl n cap : Nat) (st : Nat → Nat → Int) (fn : Int) (w : World)
theorem see_any (A : Option Addr) (q c : Nat) (x : Nat → Int) (h : IsP w gp gl n cap st) (hA : Row w A q (fun j => .int .i64 (x j))) (hne : ∀ b off, 0 < q → A = some ⟨b, off, none⟩ → b ≠ gl) (hgp : gp ≠ gl) :
    Calls Try.prog 11 #[.pointer (some ⟨gp, 0, none⟩), .int .i64 fn, .slice A q c] w fun e w' => e = .returned (.int .i64 (seeE n st fn q)) ∧ IsP w' gp gl n cap (seeS n st fn x q) ∧ UpdN n gl w w' := by
  unfold seeE seeS
  by_cases hf : fn < 0 ∨ (n : Int) ≤ fn
  · rw [if_pos hf, if_pos hf]
    refine (see_none gp gl n cap st fn A q c w h hf).mono ?_
    rintro e w' ⟨rfl, rfl⟩
    exact ⟨rfl, h, UpdN.refl _ _ _⟩
  · rw [if_neg hf, if_neg hf]
    by_cases hq : (q : Int) = st fn.toNat 0
    · rw [if_pos hq, if_pos hq]
      exact (see_ok0 gp gl n cap st fn fn.toNat (by omega) A q c x w h (by omega) hq hA hne hgp).mono fun e w' ⟨h1, h2, h3⟩ => ⟨h1, h2, UpdN.of h3 (by omega)⟩
    · rw [if_neg hq, if_neg hq]
      refine (see_arg gp gl n cap st fn fn.toNat (by omega) A q c w h (by omega) hq).mono ?_
      rintro e w' ⟨rfl, rfl⟩
      exact ⟨rfl, h, UpdN.refl _ _ _⟩
theorem calls_any (h : IsP w gp gl n cap st) :
    Calls Try.prog 12 #[.pointer (some ⟨gp, 0, none⟩), .int .i64 fn] w fun e w' => e = .returned (.int .i64 (callsV n st fn)) ∧ w' = w := by
  unfold callsV
  by_cases hf : fn < 0 ∨ (n : Int) ≤ fn
  · rw [if_pos hf]; exact calls_no gp gl n cap st fn w h hf
  · rw [if_neg hf]; exact calls_yes gp gl n cap st fn fn.toNat (by omega) w h (by omega)
theorem value_any (k : Int) (h : IsP w gp gl n cap st) :
    Calls Try.prog 14 #[.pointer (some ⟨gp, 0, none⟩), .int .i64 fn, .int .i64 k] w fun e w' => e = .returned (.tuple #[.int .i64 (valV n st fn k), .int .i64 (valT n st fn k)]) ∧ ∃ m, w' = w.drewN m := by
  unfold valV valT
  by_cases hf : fn < 0 ∨ (n : Int) ≤ fn
  · rw [if_pos hf, if_pos hf]
    exact (value_no gp gl n cap st fn k w h hf).mono fun e w' ⟨h1, h2⟩ => ⟨h1, 0, h2⟩
  · rw [if_neg hf, if_neg hf]
    by_cases hk : k < 0 ∨ st fn.toNat 0 ≤ k
    · rw [if_pos hk, if_pos hk]
      exact (value_out gp gl n cap st fn fn.toNat (by omega) k w h (by omega) hk).mono fun e w' ⟨h1, h2⟩ => ⟨h1, 0, h2⟩
    · rw [if_neg hk, if_neg hk]
      exact value_yes gp gl n cap st fn fn.toNat (by omega) k k.toNat (by omega) w h (by omega) (by omega) (h.good _ (by omega)).1.2
end

theorem value_an (gp gl n cap : Nat) (st : Nat → Nat → Int) (fn k V T : Int) (w : World) (h : IsP w gp gl n cap st) (hV : valV n st fn k = V) (hT : valT n st fn k = T) :
    Calls Try.prog 14 #[.pointer (some ⟨gp, 0, none⟩), .int .i64 fn, .int .i64 k] w fun e w' => e = .returned (.tuple #[.int .i64 V, .int .i64 T]) ∧ ∃ m, w' = w.drewN m := by
  subst hV hT; exact value_any gp gl n cap st fn w k h
theorem calls_an (gp gl n cap : Nat) (st : Nat → Nat → Int) (fn C : Int) (w : World) (h : IsP w gp gl n cap st) (hC : callsV n st fn = C) :
    Calls Try.prog 12 #[.pointer (some ⟨gp, 0, none⟩), .int .i64 fn] w fun e w' => e = .returned (.int .i64 C) ∧ w' = w := by
  subst hC; exact calls_any gp gl n cap st fn w h
theorem seeS_par (n : Nat) (st : Nat → Nat → Int) (fn : Int) (x : Nat → Int) (q i : Nat) : seeS n st fn x q i 0 = st i 0 := by
  unfold seeS
  split
  · rfl
  · split
    · by_cases h : i = fn.toNat
      · subst h; rw [after_par]
      · rw [after_other _ _ _ _ h]
    · rfl

/-- A step that came in: its function, how often, where its arguments lie, which they are. -/
structure StepD where
  fn : Int
  tm : Int
  A : Option Addr
  m : Nat
  c : Nat
  x : Nat → Int
instance : Inhabited StepD := ⟨⟨0, 0, none, 0, 0, fun _ => 0⟩⟩
structure StepAt (w : World) (b off : Nat) (s : StepD) : Prop where
  c0 : w.cell? ⟨b, off, none⟩ = some (.int .i64 s.fn)
  c1 : w.cell? ⟨b, off + 1, none⟩ = some (.int .i64 s.tm)
  c2 : w.cell? ⟨b, off + 2, none⟩ = some (.slice s.A s.m s.c)
  fit : s.m ≤ s.c
  len : s.c ≤ maxLen
  row : Row w s.A s.m (fun j => .int .i64 (s.x j))
def Steps (w : World) (a : Option Addr) (len : Nat) (s : Nat → StepD) : Prop := ∀ i, i < len → ∃ b off, a = some ⟨b, off, none⟩ ∧ StepAt w b (off + i * 3) (s i)

theorem IsP.drew {w : World} {gp gl n cap : Nat} {st : Nat → Nat → Int} (h : IsP w gp gl n cap st) : IsP w.drew gp gl n cap st := h.kept fun g hg _ => rfl
theorem Row.le {w : World} {A : Option Addr} {m n : Nat} {f : Nat → Value} (h : Row w A m f) (hn : n ≤ m) : Row w A n f := fun i hi => h i (by omega)
theorem Row.kept {w w' : World} {A : Option Addr} {n : Nat} {f : Nat → Value} (h : Row w A n f) (hb : Below w.heap.size w w') : Row w' A n f := h.below (Nat.le_refl _) hb
theorem Row.lt {w : World} {A : Option Addr} {n : Nat} {f : Nat → Value} (h : Row w A n f) (hn : 0 < n) {b off : Nat} (e : A = some ⟨b, off, none⟩) : b < w.heap.size := by
  obtain ⟨b', off', e', hc⟩ := h 0 hn
  rw [e] at e'
  injection e' with e'
  injection e' with e1 e2
  subst e1
  exact World.block_lt_of_cell? _ _ hc
theorem StepAt.kept {w w' : World} {b off : Nat} {s : StepD} (h : StepAt w b off s) (hb : Below w.heap.size w w') : StepAt w' b off s := by
  have hl := World.block_lt_of_cell? _ _ h.c0
  exact ⟨(hb.cell (p := ⟨b, off, none⟩) hl).trans h.c0, (hb.cell (p := ⟨b, off + 1, none⟩) hl).trans h.c1, (hb.cell (p := ⟨b, off + 2, none⟩) hl).trans h.c2, h.fit, h.len, h.row.kept hb⟩

end Go.Proofs.Ytemdojckeghbjaa
