/- The tokens of bytes as a function; they are one thing alone. Conditions: none. -/
import Derived.Test.YtomnomljljkdfaaLex
namespace Go.Proofs.Ytomnomljljkdfaa
open Go.RowKit
set_option linter.unusedVariables false

def runLen (p : Int → Bool) (n : Nat) (z : Nat → Int) : Nat → Nat → Nat
  | 0, _ => 0
  | f + 1, a => if a < n ∧ p (z a) = true then runLen p n z f (a + 1) + 1 else 0
theorem runLen_run (p : Int → Bool) (n : Nat) (z : Nat → Int) : ∀ (f a : Nat), a ≤ n → n ≤ a + f → IsRun p n z a (runLen p n z f a)
  | 0, a, h, h' => ⟨by unfold runLen; omega, fun j hj => by unfold runLen at hj; omega, fun h2 => by unfold runLen at h2; omega⟩
  | f + 1, a, h, h' => by
    unfold runLen
    by_cases hc : a < n ∧ p (z a) = true
    · rw [if_pos hc]
      have ih := runLen_run p n z f (a + 1) (by omega) (by omega)
      refine ⟨by have := ih.fit; omega, fun j hj => ?_, fun h2 => ?_⟩
      · rcases j with _ | j
        · exact hc.2
        · have := ih.all j (by omega)
          rwa [show a + (j + 1) = a + 1 + j from by omega]
      · have := ih.stop (by omega)
        rwa [show a + (runLen p n z f (a + 1) + 1) = a + 1 + runLen p n z f (a + 1) from by omega]
    · rw [if_neg hc]
      refine ⟨by omega, fun j hj => absurd hj (Nat.not_lt_zero j), fun h2 => ?_⟩
      have h3 : ¬ p (z a) = true := fun e => hc ⟨by omega, e⟩
      simpa using h3

def lexF (n : Nat) (z : Nat → Int) : Nat → Nat → List Tok × Option Nat
  | 0, _ => ([], none)
  | f + 1, a =>
    if a < n then
      if isBlank (z a) = true then lexF n z f (a + 1)
      else if z a = 35 then lexF n z f (a + runLen notEnd n z n a)
      else if isLetter (z a) = true then
        if runLen isInner n z n a ≤ 32 then (⟨1, a, runLen isInner n z n a⟩ :: (lexF n z f (a + runLen isInner n z n a)).1, (lexF n z f (a + runLen isInner n z n a)).2) else ([], some a)
      else if isDigit (z a) = true then
        if a + runLen isDigit n z n a < n ∧ isInner (z (a + runLen isDigit n z n a)) = true then ([], some (a + runLen isDigit n z n a))
        else (⟨2, a, runLen isDigit n z n a⟩ :: (lexF n z f (a + runLen isDigit n z n a)).1, (lexF n z f (a + runLen isDigit n z n a)).2)
      else if a + 1 < n ∧ z a = 61 ∧ z (a + 1) = 61 then (⟨3, a, 2⟩ :: (lexF n z f (a + 2)).1, (lexF n z f (a + 2)).2)
      else if isMark (z a) = true then (⟨3, a, 1⟩ :: (lexF n z f (a + 1)).1, (lexF n z f (a + 1)).2)
      else ([], some a)
    else ([], none)

theorem letter_not {c : Int} (h : isLetter c = true) : isBlank c = false ∧ c ≠ 35 := by
  simp only [isLetter, decide_eq_true_eq] at h
  simp only [isBlank, decide_eq_false_iff_not]
  omega
theorem digit_not {c : Int} (h : isDigit c = true) : isBlank c = false ∧ c ≠ 35 ∧ isLetter c = false := by
  simp only [isDigit, decide_eq_true_eq] at h
  simp only [isBlank, isLetter, decide_eq_false_iff_not]
  omega
theorem mark_not {c : Int} (h : isMark c = true) : isBlank c = false ∧ c ≠ 35 ∧ isLetter c = false ∧ isDigit c = false := by
  simp only [isMark, decide_eq_true_eq, List.mem_cons, List.not_mem_nil, or_false] at h
  simp only [isBlank, isLetter, isDigit, decide_eq_false_iff_not]
  omega

theorem Lexes.le {n : Nat} {z : Nat → Int} {a : Nat} {l : List Tok} {r : Option Nat} (h : Lexes n z a l r) : a ≤ n := by
  cases h <;> omega

theorem Lexes.eq {n : Nat} {z : Nat → Int} {a : Nat} {l : List Tok} {r : Option Nat} (h : Lexes n z a l r) : ∀ f, n < a + f → lexF n z f a = (l, r) := by
  have run : ∀ (p : Int → Bool) (a k : Nat), a ≤ n → IsRun p n z a k → runLen p n z n a = k := fun p a k ha hk => (runLen_run p n z n a ha (by omega)).unique hk
  induction h with
  | stop =>
    intro f hf
    obtain ⟨f, rfl⟩ : ∃ g, f = g + 1 := ⟨f - 1, by omega⟩
    unfold lexF
    rw [if_neg (Nat.lt_irrefl n)]
  | blank a l r ha hb _ ih =>
    intro f hf
    obtain ⟨f, rfl⟩ : ∃ g, f = g + 1 := ⟨f - 1, by omega⟩
    unfold lexF
    rw [if_pos ha, if_pos hb]
    exact ih f (by omega)
  | note a k l r ha hb hr _ ih =>
    intro f hf
    obtain ⟨f, rfl⟩ : ∃ g, f = g + 1 := ⟨f - 1, by omega⟩
    unfold lexF
    rw [if_pos ha, if_neg (by rw [hb]; decide), if_pos hb, run _ a k (by omega) hr]
    have := hr.pos ha (by rw [hb]; rfl)
    exact ih f (by omega)
  | word a k l r ha hb hr hk _ ih =>
    intro f hf
    obtain ⟨f, rfl⟩ : ∃ g, f = g + 1 := ⟨f - 1, by omega⟩
    unfold lexF
    have hn := letter_not hb
    have := hr.pos ha (by unfold isInner; rw [hb]; rfl)
    rw [if_pos ha, if_neg (by rw [hn.1]; decide), if_neg hn.2, if_pos hb, run _ a k (by omega) hr, if_pos hk, ih f (by omega)]
  | long a k ha hb hr hk =>
    intro f hf
    obtain ⟨f, rfl⟩ : ∃ g, f = g + 1 := ⟨f - 1, by omega⟩
    unfold lexF
    have hn := letter_not hb
    rw [if_pos ha, if_neg (by rw [hn.1]; decide), if_neg hn.2, if_pos hb, run _ a k (by omega) hr, if_neg (by omega)]
  | num a k l r ha hb hr hk _ ih =>
    intro f hf
    obtain ⟨f, rfl⟩ : ∃ g, f = g + 1 := ⟨f - 1, by omega⟩
    unfold lexF
    have hn := digit_not hb
    have := hr.pos ha hb
    rw [if_pos ha, if_neg (by rw [hn.1]; decide), if_neg hn.2.1, if_neg (by rw [hn.2.2]; decide), if_pos hb, run _ a k (by omega) hr, if_neg (fun h => by rw [hk h.1] at h; cases h.2), ih f (by omega)]
  | ill a k ha hb hr hk hi =>
    intro f hf
    obtain ⟨f, rfl⟩ : ∃ g, f = g + 1 := ⟨f - 1, by omega⟩
    unfold lexF
    have hn := digit_not hb
    rw [if_pos ha, if_neg (by rw [hn.1]; decide), if_neg hn.2.1, if_neg (by rw [hn.2.2]; decide), if_pos hb, run _ a k (by omega) hr, if_pos ⟨hk, hi⟩]
  | same a l r ha h0 h1 _ ih =>
    intro f hf
    obtain ⟨f, rfl⟩ : ∃ g, f = g + 1 := ⟨f - 1, by omega⟩
    unfold lexF
    rw [if_pos (by omega), if_neg (by rw [h0]; decide), if_neg (by rw [h0]; decide), if_neg (by rw [h0]; decide), if_neg (by rw [h0]; decide), if_pos ⟨ha, h0, h1⟩, ih f (by omega)]
  | mark a l r ha hb hk _ ih =>
    intro f hf
    obtain ⟨f, rfl⟩ : ∃ g, f = g + 1 := ⟨f - 1, by omega⟩
    unfold lexF
    have hn := mark_not hb
    rw [if_pos ha, if_neg (by rw [hn.1]; decide), if_neg hn.2.1, if_neg (by rw [hn.2.2.1]; decide), if_neg (by rw [hn.2.2.2]; decide), if_neg (fun h => hk ⟨h.2.1, h.1, h.2.2⟩), if_pos hb, ih f (by omega)]
  | wrong a ha h1 h2 h3 h4 h5 =>
    intro f hf
    obtain ⟨f, rfl⟩ : ∃ g, f = g + 1 := ⟨f - 1, by omega⟩
    unfold lexF
    rw [if_pos ha, if_neg (by rw [h1]; decide), if_neg h2, if_neg (by rw [h3]; decide), if_neg (by rw [h4]; decide), if_neg (fun h => by rw [h.2.1] at h5; revert h5; decide), if_neg (by rw [h5]; decide)]

theorem Lexes.unique {n : Nat} {z : Nat → Int} {a : Nat} {l l' : List Tok} {r r' : Option Nat} (h : Lexes n z a l r) (h' : Lexes n z a l' r') : l = l' ∧ r = r' := by
  have h1 := h.eq (n + 1) (by omega)
  rw [h'.eq (n + 1) (by omega)] at h1
  injection h1 with h1 h2
  exact ⟨h1.symm, h2.symm⟩

/-- Only the bytes below n count. -/
theorem IsRun.congr {p : Int → Bool} {n : Nat} {z y : Nat → Int} {a k : Nat} (h : IsRun p n z a k) (he : ∀ j, j < n → y j = z j) : IsRun p n y a k := by
  have := h.fit
  exact ⟨h.fit, fun j hj => by rw [he _ (by omega)]; exact h.all j hj, fun h2 => by rw [he _ h2]; exact h.stop h2⟩
end Go.Proofs.Ytomnomljljkdfaa
