/- The document's answer: contracts of Letter, Digit, In, skip. Conditions: none. -/
import Derived.Test.YtomnomljljkdfaaJoin
namespace Go.Proofs.Ytomnomljljkdfaa
open Go.RowKit
set_option linter.unusedVariables false

theorem ref_letter (c : Int) (w : World) :
    Calls Try.prog 25 #[.int .u8 c] w fun e w' => e = .returned (.bool (isLetter c)) ∧ w' = w := by
  by_cases a3 : 65 ≤ c
  · by_cases a4 : c ≤ 90
    · have hL := hid (show isLetter c = true by simp [isLetter]; omega)
      go_enter Try.func25, Try.ntmps25
      go_wp2
      go_ret
      exact ⟨by rw [hL.out]; rfl, rfl⟩
    · by_cases a1 : 97 ≤ c
      · by_cases a2 : c ≤ 122
        · have hL := hid (show isLetter c = true by simp [isLetter]; omega)
          go_enter Try.func25, Try.ntmps25
          go_wp2
          go_ret
          exact ⟨by rw [hL.out]; rfl, rfl⟩
        · have hL := hid (show isLetter c = false by simp [isLetter]; omega)
          go_enter Try.func25, Try.ntmps25
          go_wp2
          go_ret
          exact ⟨by rw [hL.out]; rfl, rfl⟩
      · have hL := hid (show isLetter c = false by simp [isLetter]; omega)
        go_enter Try.func25, Try.ntmps25
        go_wp2
        go_ret
        exact ⟨by rw [hL.out]; rfl, rfl⟩
  · have a1 : ¬ 97 ≤ c := by omega
    have hL := hid (show isLetter c = false by simp [isLetter]; omega)
    go_enter Try.func25, Try.ntmps25
    go_wp2
    go_ret
    exact ⟨by rw [hL.out]; rfl, rfl⟩

theorem ref_digit (c : Int) (w : World) :
    Calls Try.prog 26 #[.int .u8 c] w fun e w' => e = .returned (.bool (isDigit c)) ∧ w' = w := by
  by_cases a1 : 48 ≤ c
  · by_cases a2 : c ≤ 57
    · have hL := hid (show isDigit c = true by simp [isDigit]; omega)
      go_enter Try.func26, Try.ntmps26
      go_wp2
      go_ret
      exact ⟨by rw [hL.out]; rfl, rfl⟩
    · have hL := hid (show isDigit c = false by simp [isDigit]; omega)
      go_enter Try.func26, Try.ntmps26
      go_wp2
      go_ret
      exact ⟨by rw [hL.out]; rfl, rfl⟩
  · have hL := hid (show isDigit c = false by simp [isDigit]; omega)
    go_enter Try.func26, Try.ntmps26
    go_wp2
    go_ret
    exact ⟨by rw [hL.out]; rfl, rfl⟩

/-- Is a byte one of a text's? -/
theorem ref_in (n : Nat) (z : Nat → Int) (c : Int) (w : World) (hn : n ≤ 9223372036854775807) (hz : ∀ j, j < n → 0 ≤ z j ∧ z j ≤ 255) :
    Calls Try.prog 24 #[.string (sub z 0 n), .int .u8 c] w fun e w' => (∃ b : Bool, e = .returned (.bool b) ∧ (b = true ↔ ∃ j, j < n ∧ z j = c)) ∧ w' = w := by
  have hs := sub_size z 0 n
  have HZ := hid hz
  clear hz
  go_enter Try.func24, Try.ntmps24
  go_wp2_with fail
  go_loopw [5] (fun i wr => ∃ k : Nat, k ≤ n ∧ i = .int .i64 k ∧ Hid (∀ j, j < k → z j ≠ c) ∧ wr = w)
    (fun i _ => n - (intOf i).toNat)
  case atStart => exact ⟨0, by omega, rfl, fun j hj => absurd hj (Nat.not_lt_zero j), rfl⟩
  case round =>
    obtain ⟨k, hk, rfl, hall, rfl⟩ := hrel
    by_cases hlt : k < n
    · have hb := sub_at z n k (by rw [hs]; exact hlt) (HZ.out k hlt)
      by_cases hc : z k = c
      · have HC := hid hc
        have hcb : (z k == c) = true := by simp [hc]
        clear hc
        go_wp2_with fail
        go_ret
        exact ⟨⟨true, rfl, ⟨fun _ => ⟨k, hlt, HC.out⟩, fun _ => rfl⟩⟩, rfl⟩
      · have HC := hid hc
        have hcb : (z k == c) = false := by simp [hc]
        clear hc
        go_wp2_with fail
        go_roundw
        case rel => exact ⟨k + 1, by omega, by go_num, fun j hj => by
          rcases Nat.lt_or_ge j k with h | h
          · exact hall.out j h
          · obtain rfl : j = k := by omega
            exact HC.out, trivial⟩
        case measure => simp [intOf]; omega
    · obtain rfl : k = n := by omega
      go_wp2_with fail
      go_ret
      exact ⟨⟨false, rfl, ⟨(fun h => by cases h), fun ⟨j, hj, h⟩ => absurd h (hall.out j hj)⟩⟩, rfl⟩

def blanksL : List Int := [9, 10, 13, 32]
def marksM : List Int := [40, 41, 123, 125, 91, 93, 44, 59, 61, 43, 45, 42, 47, 37, 60, 33, 38, 124]
theorem blanks_sub : (⟨#[9, 10, 13, 32]⟩ : ByteArray) = sub (fun j => blanksL.getD j 0) 0 4 := rfl
theorem marks_sub : (⟨#[40, 41, 123, 125, 91, 93, 44, 59, 61, 43, 45, 42, 47, 37, 60, 33, 38, 124]⟩ : ByteArray) = sub (fun j => marksM.getD j 0) 0 18 := rfl
theorem in_list (L : List Int) (c : Int) : (∃ j, j < L.length ∧ L.getD j 0 = c) ↔ c ∈ L := by
  constructor
  · rintro ⟨j, hj, h⟩
    rw [List.getD_eq_getElem?_getD, List.getElem?_eq_getElem hj] at h
    rw [← h]
    exact List.getElem_mem hj
  · intro h
    obtain ⟨j, hj, h⟩ := List.getElem_of_mem h
    refine ⟨j, hj, ?_⟩
    rw [List.getD_eq_getElem?_getD, List.getElem?_eq_getElem hj]
    exact h
theorem ref_blank (c : Int) (w : World) :
    Calls Try.prog 24 #[.string ⟨#[9, 10, 13, 32]⟩, .int .u8 c] w fun e w' => e = .returned (.bool (isBlank c)) ∧ w' = w := by
  rw [blanks_sub]
  refine (ref_in 4 _ c w (by omega) (by decide)).mono ?_
  rintro e w' ⟨⟨b, rfl, hb⟩, rfl⟩
  refine ⟨?_, rfl⟩
  have h2 := in_list blanksL c
  have h3 : b = isBlank c := by
    rw [Bool.eq_iff_iff, hb]
    refine h2.trans ?_
    simp [blanksL, isBlank]
  rw [h3]
theorem ref_mark (c : Int) (w : World) :
    Calls Try.prog 24 #[.string ⟨#[40, 41, 123, 125, 91, 93, 44, 59, 61, 43, 45, 42, 47, 37, 60, 33, 38, 124]⟩, .int .u8 c] w fun e w' => e = .returned (.bool (isMark c)) ∧ w' = w := by
  rw [marks_sub]
  refine (ref_in 18 _ c w (by omega) (by decide)).mono ?_
  rintro e w' ⟨⟨b, rfl, hb⟩, rfl⟩
  refine ⟨?_, rfl⟩
  have h2 := in_list marksM c
  have h3 : b = isMark c := by
    rw [Bool.eq_iff_iff, hb]
    refine h2.trans ?_
    unfold isMark marksM
    rw [decide_eq_true_eq]
  rw [h3]

/-- The first place from one on that tells something. -/
theorem ref_skip (n : Nat) (z : Nat → Int) (a : Nat) (w : World) (hn : n ≤ 9223372036854775807) (ha : a ≤ n) (hz : ∀ j, j < n → 0 ≤ z j ∧ z j ≤ 255) :
    Calls Try.prog 20 #[.string (sub z 0 n), .int .i64 a] w fun e w' => (∃ q : Nat, a ≤ q ∧ q ≤ n ∧ e = .returned (.int .i64 q) ∧ (∀ l r, Lexes n z q l r → Lexes n z a l r) ∧ (q < n → isBlank (z q) = false ∧ z q ≠ 35)) ∧ w' = w := by
  have hs := sub_size z 0 n
  have HZ := hid hz
  clear hz
  go_enter Try.func20, Try.ntmps20
  go_wp2_with fail
  go_loopw [1] (fun i wr => ∃ k : Nat, a ≤ k ∧ k ≤ n ∧ i = .int .i64 k ∧ Hid (∀ l r, Lexes n z k l r → Lexes n z a l r) ∧ wr = w)
    (fun i _ => n - (intOf i).toNat)
  case atStart => exact ⟨a, by omega, by omega, rfl, fun l r h => h, rfl⟩
  case round =>
    obtain ⟨k, hka, hk, rfl, hall, rfl⟩ := hrel
    by_cases hlt : k < n
    · have hb := sub_at z n k (by rw [hs]; exact hlt) (HZ.out k hlt)
      by_cases h35 : z k = 35
      · have H35 := hid h35
        have h35b : (z k == 35) = true := by simp [h35]
        clear h35
        go_wp2_with fail
        go_loopw [1] (fun i wq => ∃ j : Nat, k + j ≤ n ∧ (j = 0 → k < n) ∧ i = .int .i64 ((k + j : Nat) : Int) ∧ Hid (∀ i, i < j → notEnd (z (k + i)) = true) ∧ wq = wr)
          (fun i _ => n - (intOf i).toNat)
        case atStart => exact ⟨0, by omega, fun _ => hlt, rfl, fun j hj => absurd hj (Nat.not_lt_zero j), rfl⟩
        case round =>
          obtain ⟨j, hj, hj0, rfl, hall2, rfl⟩ := hrel
          by_cases hjl : k + j < n
          · have hb2 := sub_at z n (k + j) (by rw [hs]; exact hjl) (HZ.out (k + j) hjl)
            by_cases h10 : z (k + j) = 10
            · have hr : IsRun notEnd n z k j := ⟨hj, hall2.out, fun _ => by rw [h10]; rfl⟩
              have hpos := hr.pos hlt (by rw [H35.out]; rfl)
              have HR := hid hr
              have h10b : (z (k + j) == 10) = true := by simp [h10]
              clear hr h10
              go_wp2_with fail
              go_roundw
              case rel => exact ⟨k + j, by omega, by omega, by simp, fun l r h => hall.out _ _ (.note k j l r hlt H35.out HR.out h), trivial⟩
              case measure => simp [intOf]; omega
            · have H10 := hid h10
              have h10b : (z (k + j) == 10) = false := by simp [h10]
              clear h10
              go_wp2_with fail
              go_roundw
              case rel => exact ⟨k + (j + 1) - k, by omega, by omega, by simp; omega, fun i hi => by
                rcases Nat.lt_or_ge i j with h | h
                · exact hall2.out i h
                · obtain rfl : i = j := by omega
                  unfold notEnd
                  exact decide_eq_true H10.out, trivial⟩
              case measure => simp [intOf]; omega
          · have hr : IsRun notEnd n z k j := ⟨hj, hall2.out, fun h => absurd h hjl⟩
            have hpos := hr.pos hlt (by rw [H35.out]; rfl)
            have HR := hid hr
            clear hr
            go_wp2_with fail
            go_roundw
            case rel => exact ⟨k + j, by omega, by omega, by simp, fun l r h => hall.out _ _ (.note k j l r hlt H35.out HR.out h), trivial⟩
            case measure => simp [intOf]; omega
      · have H35 := hid h35
        have h35b : (z k == 35) = false := by simp [h35]
        clear h35
        go_wp2_with fail
        refine (ref_blank (z k) _).mono ?_
        rintro e w1 ⟨rfl, rfl⟩
        cases hbl : isBlank (z k)
        · have HBL := hid hbl
          clear hbl
          go_wp2_with fail
          go_ret
          exact ⟨⟨k, hka, hk, rfl, hall.out, fun _ => ⟨HBL.out, H35.out⟩⟩, rfl⟩
        · have HBL := hid hbl
          clear hbl
          go_wp2_with fail
          go_roundw
          case rel => exact ⟨k + 1, by omega, by omega, by go_num, fun l r h => hall.out _ _ (.blank k l r hlt HBL.out h), trivial⟩
          case measure => simp [intOf]; omega
    · obtain rfl : k = n := by omega
      go_wp2_with fail
      go_ret
      exact ⟨⟨k, hka, hk, rfl, hall.out, fun h => absurd h hlt⟩, rfl⟩
end Go.Proofs.Ytomnomljljkdfaa
