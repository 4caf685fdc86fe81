/- One byte, alone, behind a letter, and behind a digit: its tokens. Conditions: none. -/
import Derived.Test.YtomnomljljkdfaaGrow
namespace Go.Proofs.Ytomnomljljkdfaa
open Go.RowKit
set_option linter.unusedVariables false

section
variable {z : Nat → Int} {a : Nat}
theorem last_blank (h : isBlank (z a) = true) : Lexes (a + 1) z a [] none := .blank a _ _ (by omega) h .stop
theorem last_note (h : z a = 35) : Lexes (a + 1) z a [] none := .note a 1 _ _ (by omega) h (.one _ _ _ _ (by omega) (by rw [h]; rfl) (fun h => by omega)) .stop
theorem last_mark (h : isMark (z a) = true) : Lexes (a + 1) z a [⟨3, a, 1⟩] none := .mark a _ _ (by omega) h (fun h => by omega) .stop
theorem last_letter (h : isLetter (z a) = true) : Lexes (a + 1) z a [⟨1, a, 1⟩] none := .word a 1 _ _ (by omega) h (.one _ _ _ _ (by omega) (inner_of_letter h) (fun h => by omega)) (by omega) .stop
theorem last_digit (h : isDigit (z a) = true) : Lexes (a + 1) z a [⟨2, a, 1⟩] none := .num a 1 _ _ (by omega) h (.one _ _ _ _ (by omega) h (fun h => by omega)) (fun h => by omega) .stop
end

def two (d c : Int) : Nat → Int := fun j => if j = 0 then d else c
theorem IsRun.both (p : Int → Bool) (z : Nat → Int) (h0 : p (z 0) = true) (h1 : p (z 1) = true) : IsRun p 2 z 0 2 :=
  ⟨by omega, fun j hj => by
    rcases Nat.lt_or_ge j 1 with h | h
    · obtain rfl : j = 0 := by omega
      exact h0
    · obtain rfl : j = 1 := by omega
      exact h1, fun h => by omega⟩
theorem a_inner (c : Int) (h : isInner c = true) : Lexes 2 (two 97 c) 0 [⟨1, 0, 2⟩] none := .word 0 2 _ _ (by omega) rfl (.both _ _ rfl h) (by omega) .stop
theorem a_more (c : Int) (h : isInner c = false) {l : List Tok} {r : Option Nat} (h2 : Lexes 2 (two 97 c) 1 l r) : Lexes 2 (two 97 c) 0 (⟨1, 0, 1⟩ :: l) r := .word 0 1 _ _ (by omega) rfl (.one _ _ _ _ (by omega) rfl (fun _ => h)) (by omega) h2
theorem d_digit (c : Int) (h : isDigit c = true) : Lexes 2 (two 55 c) 0 [⟨2, 0, 2⟩] none := .num 0 2 _ _ (by omega) rfl (.both _ _ rfl h) (fun h => by omega) .stop
theorem d_ill (c : Int) (h : isInner c = true) (h2 : isDigit c = false) : Lexes 2 (two 55 c) 0 [] (some 1) := .ill 0 1 (by omega) rfl (.one _ _ _ _ (by omega) rfl (fun _ => h2)) (by omega) h
theorem d_more (c : Int) (h : isInner c = false) {l : List Tok} {r : Option Nat} (h2 : Lexes 2 (two 55 c) 1 l r) : Lexes 2 (two 55 c) 0 (⟨2, 0, 1⟩ :: l) r := by
  have hd : isDigit c = false := by
    cases hd : isDigit c
    · rfl
    · unfold isInner at h; rw [hd] at h; simp at h
  exact .num 0 1 _ _ (by omega) rfl (.one _ _ _ _ (by omega) rfl (fun _ => hd)) (fun _ => h) h2

/-- What a byte is. -/
inductive Cls (c : Int) : Prop
  | letter : isLetter c = true → Cls c
  | digit : isDigit c = true → Cls c
  | blank : (isBlank c = true ∨ c = 35) → Cls c
  | mark : isMark c = true → Cls c
  | under : c = 95 → Cls c
  | other : isLetter c = false → isDigit c = false → isBlank c = false → c ≠ 35 → isMark c = false → c ≠ 95 → Cls c
theorem cls (c : Int) : Cls c := by
  cases h1 : isLetter c
  · cases h2 : isDigit c
    · cases h3 : isBlank c
      · by_cases h4 : c = 35
        · exact .blank (.inr h4)
        · cases h5 : isMark c
          · by_cases h6 : c = 95
            · exact .under h6
            · exact .other h1 h2 h3 h4 h5 h6
          · exact .mark h5
      · exact .blank (.inl h3)
    · exact .digit h2
  · exact .letter h1
def bl (c : Int) : Bool := isBlank c || decide (c = 35)
theorem inner_not {c : Int} (h1 : isLetter c = false) (h2 : isDigit c = false) (h3 : c ≠ 95) : isInner c = false := by
  unfold isInner; rw [h1, h2]; simp [h3]
theorem mark_not95 {c : Int} (h : isMark c = true) : c ≠ 95 := by rintro rfl; revert h; decide
theorem blank_not {c : Int} (h : isBlank c = true ∨ c = 35) : isLetter c = false ∧ isDigit c = false ∧ isMark c = false ∧ c ≠ 95 := by
  rcases h with h | rfl
  · simp [isBlank] at h
    rcases h with rfl | rfl | rfl | rfl <;> exact ⟨rfl, rfl, rfl, by decide⟩
  · exact ⟨rfl, rfl, rfl, by decide⟩

/-- Three readings of one byte: alone, behind a letter, behind a digit. -/
theorem other_lex {c : Int} (h1 : isLetter c = false) (h2 : isDigit c = false) (h3 : isBlank c = false) (h4 : c ≠ 35) (h5 : isMark c = false) {z : Nat → Int} {a : Nat} (hz : z a = c) : Lexes (a + 1) z a [] (some a) := by
  subst hz
  exact .wrong a (by omega) h3 h4 h1 h2 h5
end Go.Proofs.Ytomnomljljkdfaa
