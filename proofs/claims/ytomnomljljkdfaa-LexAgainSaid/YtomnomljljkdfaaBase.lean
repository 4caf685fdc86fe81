/- Bytes as tokens: what the tokens of bytes are; contracts of letter, digit, inner, run. Conditions: none. -/
import Derived.Test.YtomnomljljkdfaaChecked
import Derived.Test.YtomnomljljkdfaaShelf
import Derived.WalkKit
import Derived.WalkMore
import Derived.Laws.BytesArg
import Derived.Laws.IdiomStrings
namespace Go.Proofs.Ytomnomljljkdfaa
open Go.RowKit
set_option linter.unusedVariables false

/-- A fact kept out of the walk's sight. -/
def Hid (p : Prop) : Prop := p
theorem hid {p : Prop} (h : p) : Hid p := h
theorem Hid.out {p : Prop} (h : Hid p) : p := h

/-- What a byte may be. -/
def isLetter (c : Int) : Bool := decide ((65 ≤ c ∧ c ≤ 90) ∨ (97 ≤ c ∧ c ≤ 122))
def isDigit (c : Int) : Bool := decide (48 ≤ c ∧ c ≤ 57)
def isInner (c : Int) : Bool := isLetter c || isDigit c || decide (c = 95)
def isBlank (c : Int) : Bool := decide (c = 9 ∨ c = 10 ∨ c = 13 ∨ c = 32)
def isMark (c : Int) : Bool := decide (c ∈ [40, 41, 123, 125, 91, 93, 44, 59, 61, 43, 45, 42, 47, 37, 60, 33, 38, (124 : Int)])
def notEnd (c : Int) : Bool := decide (c ≠ 10)

/-- The text of k bytes from place a on. -/
def sub (z : Nat → Int) (a k : Nat) : ByteArray := strOfNums ((List.range k).map fun j => z (a + j))
theorem sub_size (z : Nat → Int) (a k : Nat) : (sub z a k).size = k := by simp [sub, strOfNums_size]

/-- From place a on k bytes are so, and not the next one. -/
structure IsRun (p : Int → Bool) (n : Nat) (z : Nat → Int) (a k : Nat) : Prop where
  fit : a + k ≤ n
  all : ∀ j, j < k → p (z (a + j)) = true
  stop : a + k < n → p (z (a + k)) = false
theorem IsRun.unique {p : Int → Bool} {n : Nat} {z : Nat → Int} {a k m : Nat} (h : IsRun p n z a k) (h' : IsRun p n z a m) : k = m := by
  rcases Nat.lt_trichotomy k m with e | e | e
  · have h1 := h'.all k e
    have h2 := h.stop (by have := h'.fit; omega)
    rw [h1] at h2; cases h2
  · exact e
  · have h1 := h.all m e
    have h2 := h'.stop (by have := h.fit; omega)
    rw [h1] at h2; cases h2
theorem IsRun.pos {p : Int → Bool} {n : Nat} {z : Nat → Int} {a k : Nat} (h : IsRun p n z a k) (ha : a < n) (hp : p (z a) = true) : 0 < k := by
  rcases Nat.eq_zero_or_pos k with e | e
  · subst e
    have := h.stop (by omega)
    rw [Nat.add_zero, hp] at this; cases this
  · exact e

/-- A token: what it is, where, how many bytes. -/
structure Tok where
  kind : Int
  at_ : Nat
  size : Nat

/-- The bytes of z below n, from a place on, are these tokens; what is wrong, and where. -/
inductive Lexes (n : Nat) (z : Nat → Int) : Nat → List Tok → Option Nat → Prop
  | stop : Lexes n z n [] none
  | blank (a : Nat) (l : List Tok) (r : Option Nat) : a < n → isBlank (z a) = true → Lexes n z (a + 1) l r → Lexes n z a l r
  | note (a k : Nat) (l : List Tok) (r : Option Nat) : a < n → z a = 35 → IsRun notEnd n z a k → Lexes n z (a + k) l r → Lexes n z a l r
  | word (a k : Nat) (l : List Tok) (r : Option Nat) : a < n → isLetter (z a) = true → IsRun isInner n z a k → k ≤ 32 → Lexes n z (a + k) l r → Lexes n z a (⟨1, a, k⟩ :: l) r
  | long (a k : Nat) : a < n → isLetter (z a) = true → IsRun isInner n z a k → 32 < k → Lexes n z a [] (some a)
  | num (a k : Nat) (l : List Tok) (r : Option Nat) : a < n → isDigit (z a) = true → IsRun isDigit n z a k → (a + k < n → isInner (z (a + k)) = false) → Lexes n z (a + k) l r → Lexes n z a (⟨2, a, k⟩ :: l) r
  | ill (a k : Nat) : a < n → isDigit (z a) = true → IsRun isDigit n z a k → a + k < n → isInner (z (a + k)) = true → Lexes n z a [] (some (a + k))
  | same (a : Nat) (l : List Tok) (r : Option Nat) : a + 1 < n → z a = 61 → z (a + 1) = 61 → Lexes n z (a + 2) l r → Lexes n z a (⟨3, a, 2⟩ :: l) r
  | mark (a : Nat) (l : List Tok) (r : Option Nat) : a < n → isMark (z a) = true → ¬ (z a = 61 ∧ a + 1 < n ∧ z (a + 1) = 61) → Lexes n z (a + 1) l r → Lexes n z a (⟨3, a, 1⟩ :: l) r
  | wrong (a : Nat) : a < n → isBlank (z a) = false → z a ≠ 35 → isLetter (z a) = false → isDigit (z a) = false → isMark (z a) = false → Lexes n z a [] (some a)

theorem u8_or (c : Int) (h0 : 0 ≤ c) (h1 : c ≤ 255) : bits .or .u8 c 32 = if c / 32 % 2 = 0 then c + 32 else c := by
  obtain ⟨m, rfl⟩ : ∃ m : Nat, c = m := ⟨c.toNat, by omega⟩
  have hm : m < 256 := by omega
  have : ∀ m : Fin 256, bits .or .u8 ((m.val : Nat) : Int) 32 = if ((m.val : Nat) : Int) / 32 % 2 = 0 then ((m.val : Nat) : Int) + 32 else ((m.val : Nat) : Int) := by decide +kernel
  exact this ⟨m, hm⟩

theorem letter_any (c : Int) (h0 : 0 ≤ c) (h1 : c ≤ 255) (w : World) :
    Calls Try.prog 16 #[.int .u8 c] w fun e w' => e = .returned (.bool (isLetter c)) ∧ w' = w := by
  obtain ⟨d, hd⟩ : ∃ d, bits .or .u8 c 32 = d := ⟨_, rfl⟩
  have hl : isLetter c = (decide (97 ≤ d) && decide (d ≤ 122)) := by
    rw [← hd, u8_or c h0 h1]
    unfold isLetter
    rw [← Bool.decide_and]
    congr 1
    apply propext
    split <;> omega
  have HL := hid hl
  clear hl
  go_enter Try.func16, Try.ntmps16
  go_wp2
  · have e : isLetter c = decide (d ≤ 122) := by rw [HL.out]; simp; omega
    go_ret
    exact ⟨by rw [e]; rfl, rfl⟩
  · have e : isLetter c = false := by rw [HL.out]; simp; omega
    go_ret
    exact ⟨by rw [e]; rfl, rfl⟩

theorem digit_any (c : Int) (w : World) :
    Calls Try.prog 18 #[.int .u8 c] w fun e w' => e = .returned (.bool (isDigit c)) ∧ w' = w := by
  by_cases h : 48 ≤ c
  · have e : isDigit c = decide (c ≤ 57) := by unfold isDigit; simp [h]
    rw [e]
    go_enter Try.func18, Try.ntmps18
    go_wp2
    go_ret
    exact ⟨rfl, rfl⟩
  · have e : isDigit c = false := by unfold isDigit; simp [h]
    rw [e]
    have h' : ¬ 48 ≤ c := h
    go_enter Try.func18, Try.ntmps18
    go_wp2
    go_ret
    exact ⟨rfl, rfl⟩

theorem notEnd_any (c : Int) (w : World) :
    Calls Try.prog 15 #[.int .u8 c] w fun e w' => e = .returned (.bool (notEnd c)) ∧ w' = w := by
  by_cases h : c = 10
  · subst h
    go_enter Try.func15, Try.ntmps15
    go_wp2
    go_ret
    exact ⟨rfl, rfl⟩
  · have e : notEnd c = true := by unfold notEnd; simp [h]
    rw [e]
    have e2 : (c != 10) = true := by simp [h]
    go_enter Try.func15, Try.ntmps15
    go_wp2
    go_ret
    exact ⟨by simp, rfl⟩

theorem inner_any (c : Int) (h0 : 0 ≤ c) (h1 : c ≤ 255) (w : World) :
    Calls Try.prog 17 #[.int .u8 c] w fun e w' => e = .returned (.bool (isInner c)) ∧ w' = w := by
  obtain ⟨L, hL⟩ : ∃ L, isLetter c = L := ⟨_, rfl⟩
  obtain ⟨D, hD⟩ : ∃ D, isDigit c = D := ⟨_, rfl⟩
  have e : isInner c = (L || D || (c == 95)) := by unfold isInner; rw [hL, hD]; rfl
  rw [e]
  have HL := hid hL
  have HD := hid hD
  clear hL hD e
  cases L
  · cases D
    · go_enter Try.func17, Try.ntmps17
      go_wp2_with fail
      refine (letter_any c h0 h1 _).mono ?_
      rintro e w1 ⟨rfl, rfl⟩
      rw [HL.out]
      go_wp2_with fail
      refine (digit_any c _).mono ?_
      rintro e w1 ⟨rfl, rfl⟩
      rw [HD.out]
      go_wp2_with fail
      go_ret
      exact ⟨by simp, rfl⟩
    · go_enter Try.func17, Try.ntmps17
      go_wp2_with fail
      refine (letter_any c h0 h1 _).mono ?_
      rintro e w1 ⟨rfl, rfl⟩
      rw [HL.out]
      go_wp2_with fail
      refine (digit_any c _).mono ?_
      rintro e w1 ⟨rfl, rfl⟩
      rw [HD.out]
      go_wp2_with fail
      go_ret
      exact ⟨by simp, rfl⟩
  · go_enter Try.func17, Try.ntmps17
    go_wp2_with fail
    refine (letter_any c h0 h1 _).mono ?_
    rintro e w1 ⟨rfl, rfl⟩
    rw [HL.out]
    go_wp2_with fail
    go_ret
    exact ⟨by simp, rfl⟩

/-- The bytes of a text, each as a number. -/
theorem sub_get (z : Nat → Int) (a k j : Nat) (h : j < k) (h0 : 0 ≤ z (a + j)) (h1 : z (a + j) ≤ 255) : ((sub z a k).data.toList.getD j 0).toNat = z (a + j) := by
  simp [sub, strOfNums, h]
  omega

theorem sub_at (z : Nat → Int) (n j : Nat) (h : j < (sub z 0 n).size) (hz : 0 ≤ z j ∧ z j ≤ 255) : (((sub z 0 n)[j]'h).toNat : Int) = z j := by
  show ((((sub z 0 n).data[j]'h).toNat : Nat) : Int) = z j
  simp [sub, strOfNums]
  omega

theorem run15_any (n : Nat) (z : Nat → Int) (a : Nat) (w : World) (hn : n ≤ 9223372036854775807) (ha : a ≤ n) (hz : ∀ j, j < n → 0 ≤ z j ∧ z j ≤ 255) :
    Calls Try.prog 14 #[.string (sub z 0 n), .int .i64 a, .func (.func 15) #[] #[]] w fun e w' => (∃ k : Nat, IsRun notEnd n z a k ∧ e = .returned (.int .i64 k)) ∧ w' = w := by
  have hs := sub_size z 0 n
  have HZ := hid hz
  clear hz
  go_enter Try.func14, Try.ntmps14
  go_wp2_with fail
  go_loopw [7] (fun i wr => ∃ k : Nat, a + k ≤ n ∧ i = .int .i64 ((a + k : Nat) : Int) ∧ Hid (∀ j, j < k → notEnd (z (a + j)) = true) ∧ wr = w)
    (fun i _ => n - (intOf i).toNat)
  case atStart => exact ⟨0, by omega, by simp, fun j hj => absurd hj (Nat.not_lt_zero j), rfl⟩
  case round =>
    obtain ⟨k, hk, rfl, hall, rfl⟩ := hrel
    by_cases hlt : a + k < n
    · obtain ⟨hz0, hz1⟩ := HZ.out (a + k) hlt
      have hb := sub_at z n (a + k) (by rw [hs]; exact hlt) ⟨hz0, hz1⟩
      obtain ⟨P, hP⟩ : ∃ P, notEnd (z (a + k)) = P := ⟨_, rfl⟩
      have HP := hid hP
      clear hP
      cases P
      · go_wp2_with fail
        refine (notEnd_any _ _).mono ?_
        rintro e w1 ⟨rfl, rfl⟩
        rw [HP.out]
        go_wp2_with fail
        go_ret
        exact ⟨⟨k, ⟨hk, hall.out, fun _ => HP.out⟩, by simp; omega⟩, rfl⟩
      · go_wp2_with fail
        refine (notEnd_any _ _).mono ?_
        rintro e w1 ⟨rfl, rfl⟩
        rw [HP.out]
        go_wp2_with fail
        go_roundw
        case rel => exact ⟨k + 1, by omega, by simp; omega, fun j hj => by
          rcases Nat.lt_or_ge j k with h | h
          · exact hall.out j h
          · obtain rfl : j = k := by omega
            exact HP.out, trivial⟩
        case measure => simp [intOf]; omega
    · have hkn : a + k = n := by omega
      go_wp2_with fail
      go_ret
      exact ⟨⟨k, ⟨hk, hall.out, fun h => absurd h hlt⟩, by simp; omega⟩, rfl⟩

theorem run17_any (n : Nat) (z : Nat → Int) (a : Nat) (w : World) (hn : n ≤ 9223372036854775807) (ha : a ≤ n) (hz : ∀ j, j < n → 0 ≤ z j ∧ z j ≤ 255) :
    Calls Try.prog 14 #[.string (sub z 0 n), .int .i64 a, .func (.func 17) #[] #[]] w fun e w' => (∃ k : Nat, IsRun isInner n z a k ∧ e = .returned (.int .i64 k)) ∧ w' = w := by
  have hs := sub_size z 0 n
  have HZ := hid hz
  clear hz
  go_enter Try.func14, Try.ntmps14
  go_wp2_with fail
  go_loopw [7] (fun i wr => ∃ k : Nat, a + k ≤ n ∧ i = .int .i64 ((a + k : Nat) : Int) ∧ Hid (∀ j, j < k → isInner (z (a + j)) = true) ∧ wr = w)
    (fun i _ => n - (intOf i).toNat)
  case atStart => exact ⟨0, by omega, by simp, fun j hj => absurd hj (Nat.not_lt_zero j), rfl⟩
  case round =>
    obtain ⟨k, hk, rfl, hall, rfl⟩ := hrel
    by_cases hlt : a + k < n
    · obtain ⟨hz0, hz1⟩ := HZ.out (a + k) hlt
      have hb := sub_at z n (a + k) (by rw [hs]; exact hlt) ⟨hz0, hz1⟩
      obtain ⟨P, hP⟩ : ∃ P, isInner (z (a + k)) = P := ⟨_, rfl⟩
      have HP := hid hP
      clear hP
      cases P
      · go_wp2_with fail
        refine (inner_any _ hz0 hz1 _).mono ?_
        rintro e w1 ⟨rfl, rfl⟩
        rw [HP.out]
        go_wp2_with fail
        go_ret
        exact ⟨⟨k, ⟨hk, hall.out, fun _ => HP.out⟩, by simp; omega⟩, rfl⟩
      · go_wp2_with fail
        refine (inner_any _ hz0 hz1 _).mono ?_
        rintro e w1 ⟨rfl, rfl⟩
        rw [HP.out]
        go_wp2_with fail
        go_roundw
        case rel => exact ⟨k + 1, by omega, by simp; omega, fun j hj => by
          rcases Nat.lt_or_ge j k with h | h
          · exact hall.out j h
          · obtain rfl : j = k := by omega
            exact HP.out, trivial⟩
        case measure => simp [intOf]; omega
    · have hkn : a + k = n := by omega
      go_wp2_with fail
      go_ret
      exact ⟨⟨k, ⟨hk, hall.out, fun h => absurd h hlt⟩, by simp; omega⟩, rfl⟩

theorem run18_any (n : Nat) (z : Nat → Int) (a : Nat) (w : World) (hn : n ≤ 9223372036854775807) (ha : a ≤ n) (hz : ∀ j, j < n → 0 ≤ z j ∧ z j ≤ 255) :
    Calls Try.prog 14 #[.string (sub z 0 n), .int .i64 a, .func (.func 18) #[] #[]] w fun e w' => (∃ k : Nat, IsRun isDigit n z a k ∧ e = .returned (.int .i64 k)) ∧ w' = w := by
  have hs := sub_size z 0 n
  have HZ := hid hz
  clear hz
  go_enter Try.func14, Try.ntmps14
  go_wp2_with fail
  go_loopw [7] (fun i wr => ∃ k : Nat, a + k ≤ n ∧ i = .int .i64 ((a + k : Nat) : Int) ∧ Hid (∀ j, j < k → isDigit (z (a + j)) = true) ∧ wr = w)
    (fun i _ => n - (intOf i).toNat)
  case atStart => exact ⟨0, by omega, by simp, fun j hj => absurd hj (Nat.not_lt_zero j), rfl⟩
  case round =>
    obtain ⟨k, hk, rfl, hall, rfl⟩ := hrel
    by_cases hlt : a + k < n
    · obtain ⟨hz0, hz1⟩ := HZ.out (a + k) hlt
      have hb := sub_at z n (a + k) (by rw [hs]; exact hlt) ⟨hz0, hz1⟩
      obtain ⟨P, hP⟩ : ∃ P, isDigit (z (a + k)) = P := ⟨_, rfl⟩
      have HP := hid hP
      clear hP
      cases P
      · go_wp2_with fail
        refine (digit_any _ _).mono ?_
        rintro e w1 ⟨rfl, rfl⟩
        rw [HP.out]
        go_wp2_with fail
        go_ret
        exact ⟨⟨k, ⟨hk, hall.out, fun _ => HP.out⟩, by simp; omega⟩, rfl⟩
      · go_wp2_with fail
        refine (digit_any _ _).mono ?_
        rintro e w1 ⟨rfl, rfl⟩
        rw [HP.out]
        go_wp2_with fail
        go_roundw
        case rel => exact ⟨k + 1, by omega, by simp; omega, fun j hj => by
          rcases Nat.lt_or_ge j k with h | h
          · exact hall.out j h
          · obtain rfl : j = k := by omega
            exact HP.out, trivial⟩
        case measure => simp [intOf]; omega
    · have hkn : a + k = n := by omega
      go_wp2_with fail
      go_ret
      exact ⟨⟨k, ⟨hk, hall.out, fun h => absurd h hlt⟩, by simp; omega⟩, rfl⟩

end Go.Proofs.Ytomnomljljkdfaa
