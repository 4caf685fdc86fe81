/- The document's answer: contract of next. Conditions: none. -/
import Derived.Test.YtomnomljljkdfaaRefA
namespace Go.Proofs.Ytomnomljljkdfaa
open Go.RowKit
set_option linter.unusedVariables false

/-- What next answers. -/
def NextTold (n : Nat) (z : Nat → Int) (a : Nat) (w : World) (e : Ending) (w' : World) : Prop :=
  ((∃ (kind : Int) (k : Nat), 0 < k ∧ a + k ≤ n ∧ e = .returned (.tuple #[.agg #[.int .i64 kind, .string (sub z a k), .int .i64 a], .int .i64 (-1)]) ∧ (∀ l r, Lexes n z (a + k) l r → Lexes n z a (⟨kind, a, k⟩ :: l) r)) ∨
    (∃ p : Nat, p < n ∧ e = .returned (.tuple #[.agg #[.int .i64 0, .string ⟨#[]⟩, .int .i64 0], .int .i64 p]) ∧ Lexes n z a [] (some p))) ∧ Below w.heap.size w w'


theorem inner_letter {c : Int} (h : isLetter c = true) : isInner c = true := by unfold isInner; rw [h]; rfl
theorem inner_digit {c : Int} (h : isDigit c = true) : isInner c = true := by unfold isInner; rw [h]; simp
theorem inner_under {c : Int} (h : c = 95) : isInner c = true := by subst h; rfl
theorem inner_none {c : Int} (h1 : isLetter c = false) (h2 : isDigit c = false) (h3 : ¬ c = 95) : isInner c = false := by
  unfold isInner; rw [h1, h2]; simp [h3]

section
variable {n : Nat} {z : Nat → Int} {a : Nat} {w w' : World}
theorem told_ok {kind : Int} {k : Nat} {e : Ending} (he : e = .returned (.tuple #[.agg #[.int .i64 kind, .string (sub z a k), .int .i64 a], .int .i64 (-1)])) (h0 : 0 < k) (h1 : a + k ≤ n) (h : ∀ l r, Lexes n z (a + k) l r → Lexes n z a (⟨kind, a, k⟩ :: l) r) (hb : Below w.heap.size w w') : NextTold n z a w e w' :=
  ⟨.inl ⟨kind, k, h0, h1, he, h⟩, hb⟩
theorem told_no {p : Nat} {q : Int} {e : Ending} (he : e = .returned (.tuple #[.agg #[.int .i64 0, .string ⟨#[]⟩, .int .i64 0], .int .i64 q])) (hq : q = p) (hp : p < n) (h : Lexes n z a [] (some p)) (hb : Below w.heap.size w w') : NextTold n z a w e w' := by
  subst hq
  exact ⟨.inr ⟨p, hp, he, h⟩, hb⟩
end

set_option maxRecDepth 100000 in
set_option maxHeartbeats 4000000 in
theorem next_mark (n : Nat) (z : Nat → Int) (a : Nat) (w : World) (hn : n ≤ 65536) (ha : a < n) (hz : ∀ j, j < n → 0 ≤ z j ∧ z j ≤ 255) (hbl : isBlank (z a) = false) (h35 : z a ≠ 35) (hL : isLetter (z a) = false) (hD : isDigit (z a) = false) :
    Calls Try.prog 21 #[.string (sub z 0 n), .int .i64 a] w (NextTold n z a w) := by
  have hs := sub_size z 0 n
  have HZ := hid hz
  have HBL := hid hbl
  have H35 := hid h35
  have HL := hid hL
  have HD := hid hD
  have hb := sub_at z n a (by rw [hs]; exact ha) (HZ.out a ha)
  clear hz hbl h35 hL hD
  go_enter Try.func21, Try.ntmps21
  go_wp2_with fail
  refine (ref_letter (z a) _).mono ?_
  rintro e w1 ⟨rfl, rfl⟩
  rw [HL.out]
  go_wp2_with fail
  refine (ref_digit (z a) _).mono ?_
  rintro e w1 ⟨rfl, rfl⟩
  rw [HD.out]
  go_wp2_with fail
  refine (ref_mark (z a) _).mono ?_
  rintro e w1 ⟨rfl, rfl⟩
  cases hM : isMark (z a)
  · have HM := hid hM
    clear hM
    go_wp2_with fail
    exact bodyPost_ret (v := .tuple #[.agg #[.int .i64 0, .string ⟨#[]⟩, .int .i64 0], .int .i64 a]) (by simp [results, Try.results21, go_sem]) rfl (told_no rfl rfl ha (.wrong a ha HBL.out H35.out HL.out HD.out HM.out) ((Below.refl _ _).alloc (Nat.le_refl _) _))
  · have HM := hid hM
    clear hM
    by_cases h61 : z a = 61
    · have h61b : (z a == 61) = true := by simp [h61]
      have H61 := hid h61
      clear h61
      by_cases hlt : a + 1 < n
      · have hb2 := sub_at z n (a + 1) (by rw [hs]; exact hlt) (HZ.out (a + 1) hlt)
        by_cases h62 : z (a + 1) = 61
        · have h62b : (z (a + 1) == 61) = true := by simp [h62]
          have H62 := hid h62
          clear h62
          have hext : (sub z 0 n).extract a (a + 2) = sub z a 2 := sub_ext z n a 2 (by omega)
          go_wp2_with fail
          exact bodyPost_ret (v := .tuple #[.agg #[.int .i64 3, .string (sub z a 2), .int .i64 a], .int .i64 (-1)]) (by simp [results, Try.results21, go_sem]) rfl (told_ok rfl (by omega) (by omega) (fun l r h => .same a l r hlt H61.out H62.out h) ((Below.refl _ _).alloc (Nat.le_refl _) _))
        · have h62b : (z (a + 1) == 61) = false := by simp [h62]
          have H62 := hid h62
          clear h62
          have hext : (sub z 0 n).extract a (a + 1) = sub z a 1 := sub_ext z n a 1 (by omega)
          go_wp2_with fail
          exact bodyPost_ret (v := .tuple #[.agg #[.int .i64 3, .string (sub z a 1), .int .i64 a], .int .i64 (-1)]) (by simp [results, Try.results21, go_sem]) rfl (told_ok rfl (by omega) (by omega) (fun l r h => .mark a l r ha HM.out (fun c => H62.out c.2.2) h) ((Below.refl _ _).alloc (Nat.le_refl _) _))
      · have hext : (sub z 0 n).extract a (a + 1) = sub z a 1 := sub_ext z n a 1 (by omega)
        go_wp2_with fail
        exact bodyPost_ret (v := .tuple #[.agg #[.int .i64 3, .string (sub z a 1), .int .i64 a], .int .i64 (-1)]) (by simp [results, Try.results21, go_sem]) rfl (told_ok rfl (by omega) (by omega) (fun l r h => .mark a l r ha HM.out (fun c => hlt c.2.1) h) ((Below.refl _ _).alloc (Nat.le_refl _) _))
    · have h61b : (z a == 61) = false := by simp [h61]
      have H61 := hid h61
      clear h61
      have hext : (sub z 0 n).extract a (a + 1) = sub z a 1 := sub_ext z n a 1 (by omega)
      go_wp2_with fail
      exact bodyPost_ret (v := .tuple #[.agg #[.int .i64 3, .string (sub z a 1), .int .i64 a], .int .i64 (-1)]) (by simp [results, Try.results21, go_sem]) rfl (told_ok rfl (by omega) (by omega) (fun l r h => .mark a l r ha HM.out (fun c => H61.out c.1) h) ((Below.refl _ _).alloc (Nat.le_refl _) _))

set_option maxRecDepth 100000 in
set_option maxHeartbeats 4000000 in
theorem next_word (n : Nat) (z : Nat → Int) (a : Nat) (w : World) (hn : n ≤ 65536) (ha : a < n) (hz : ∀ j, j < n → 0 ≤ z j ∧ z j ≤ 255) (hL : isLetter (z a) = true) :
    Calls Try.prog 21 #[.string (sub z 0 n), .int .i64 a] w (NextTold n z a w) := by
  have hs := sub_size z 0 n
  have HZ := hid hz
  have HL := hid hL
  have hb := sub_at z n a (by rw [hs]; exact ha) (HZ.out a ha)
  clear hz hL
  go_enter Try.func21, Try.ntmps21
  go_wp2_with fail
  refine (ref_letter (z a) _).mono ?_
  rintro e w1 ⟨rfl, rfl⟩
  rw [HL.out]
  go_wp2_with fail
  refine (ref_digit (z a) _).mono ?_
  rintro e w1 ⟨rfl, rfl⟩
  generalize isDigit (z a) = D
  go_wp2_with fail
  go_loopw [8] (fun i wr => ∃ k : Nat, 0 < k ∧ a + k ≤ n ∧ i = .int .i64 ((a + k : Nat) : Int) ∧ Hid (∀ j, j < k → isInner (z (a + j)) = true) ∧ wr = w.alloc (Obj.cells #[Value.int IntKind.i64 0, Value.string { data := #[] }, Value.int IntKind.i64 0] 33))
    (fun i _ => n - (intOf i).toNat)
  case atStart => exact ⟨1, by omega, by omega, by simp, fun j hj => by obtain rfl : j = 0 := (by omega); exact inner_letter HL.out, rfl⟩
  case round =>
    obtain ⟨k, hk0, hk, rfl, hall, rfl⟩ := hrel
    by_cases hlt : a + k < n
    · have hb2 := sub_at z n (a + k) (by rw [hs]; exact hlt) (HZ.out (a + k) hlt)
      go_wp2_with fail
      refine (ref_letter (z (a + k)) _).mono ?_
      rintro e w4 ⟨rfl, rfl⟩
      cases hl : isLetter (z (a + k))
      · have HL2 := hid hl
        clear hl
        go_wp2_with fail
        refine (ref_digit (z (a + k)) _).mono ?_
        rintro e w4 ⟨rfl, rfl⟩
        cases hd : isDigit (z (a + k))
        · have HD2 := hid hd
          clear hd
          by_cases h95 : z (a + k) = 95
          · have h95b : (z (a + k) == 95) = true := by simp [h95]
            have HI := hid (inner_under h95)
            clear h95
            go_wp2_with fail
            go_roundw
            case rel => exact ⟨k + 1, by omega, by omega, by simp; omega, fun j hj => by
              rcases Nat.lt_or_ge j k with h | h
              · exact hall.out j h
              · obtain rfl : j = k := by omega
                exact HI.out, trivial⟩
            case measure => simp [intOf]; omega
          · have h95b : (z (a + k) == 95) = false := by simp [h95]
            have HI := hid (inner_none HL2.out HD2.out h95)
            clear h95
            have hrun := hid (⟨hk, hall.out, fun _ => HI.out⟩ : IsRun isInner n z a k)
            by_cases h32 : k ≤ 32
            · have hext : (sub z 0 n).extract a (a + k) = sub z a k := sub_ext z n a k hk
              go_wp2_with fail
              exact bodyPost_ret (v := .tuple #[.agg #[.int .i64 1, .string (sub z a k), .int .i64 a], .int .i64 (-1)]) (by simp [results, Try.results21, go_sem]) rfl (told_ok rfl hk0 hk (fun l r h => .word a k l r ha HL.out hrun.out h32 h) ((Below.refl _ _).alloc (Nat.le_refl _) _))
            · go_wp2_with fail
              exact bodyPost_ret (v := .tuple #[.agg #[.int .i64 0, .string ⟨#[]⟩, .int .i64 0], .int .i64 a]) (by simp [results, Try.results21, go_sem]) rfl (told_no rfl rfl ha (.long a k ha HL.out hrun.out (by omega)) ((Below.refl _ _).alloc (Nat.le_refl _) _))
        · have HI := hid (inner_digit hd)
          clear hd
          go_wp2_with fail
          go_roundw
          case rel => exact ⟨k + 1, by omega, by omega, by simp; omega, fun j hj => by
            rcases Nat.lt_or_ge j k with h | h
            · exact hall.out j h
            · obtain rfl : j = k := by omega
              exact HI.out, trivial⟩
          case measure => simp [intOf]; omega
      · have HI := hid (inner_letter hl)
        clear hl
        go_wp2_with fail
        go_roundw
        case rel => exact ⟨k + 1, by omega, by omega, by simp; omega, fun j hj => by
          rcases Nat.lt_or_ge j k with h | h
          · exact hall.out j h
          · obtain rfl : j = k := by omega
            exact HI.out, trivial⟩
        case measure => simp [intOf]; omega
    · have hrun := hid (⟨hk, hall.out, fun h => absurd h hlt⟩ : IsRun isInner n z a k)
      by_cases h32 : k ≤ 32
      · have hext : (sub z 0 n).extract a (a + k) = sub z a k := sub_ext z n a k hk
        go_wp2_with fail
        exact bodyPost_ret (v := .tuple #[.agg #[.int .i64 1, .string (sub z a k), .int .i64 a], .int .i64 (-1)]) (by simp [results, Try.results21, go_sem]) rfl (told_ok rfl hk0 hk (fun l r h => .word a k l r ha HL.out hrun.out h32 h) ((Below.refl _ _).alloc (Nat.le_refl _) _))
      · go_wp2_with fail
        exact bodyPost_ret (v := .tuple #[.agg #[.int .i64 0, .string ⟨#[]⟩, .int .i64 0], .int .i64 a]) (by simp [results, Try.results21, go_sem]) rfl (told_no rfl rfl ha (.long a k ha HL.out hrun.out (by omega)) ((Below.refl _ _).alloc (Nat.le_refl _) _))

set_option maxRecDepth 100000 in
set_option maxHeartbeats 4000000 in
theorem next_num (n : Nat) (z : Nat → Int) (a : Nat) (w : World) (hn : n ≤ 65536) (ha : a < n) (hz : ∀ j, j < n → 0 ≤ z j ∧ z j ≤ 255) (hL : isLetter (z a) = false) (hD : isDigit (z a) = true) :
    Calls Try.prog 21 #[.string (sub z 0 n), .int .i64 a] w (NextTold n z a w) := by
  have hs := sub_size z 0 n
  have HZ := hid hz
  have HL := hid hL
  have HD := hid hD
  have hb := sub_at z n a (by rw [hs]; exact ha) (HZ.out a ha)
  clear hz hL hD
  go_enter Try.func21, Try.ntmps21
  go_wp2_with fail
  refine (ref_letter (z a) _).mono ?_
  rintro e w1 ⟨rfl, rfl⟩
  rw [HL.out]
  go_wp2_with fail
  refine (ref_digit (z a) _).mono ?_
  rintro e w1 ⟨rfl, rfl⟩
  rw [HD.out]
  go_wp2_with fail
  go_loopw [8] (fun i wr => ∃ k : Nat, 0 < k ∧ a + k ≤ n ∧ i = .int .i64 ((a + k : Nat) : Int) ∧ Hid (∀ j, j < k → isDigit (z (a + j)) = true) ∧ wr = w.alloc (Obj.cells #[Value.int IntKind.i64 0, Value.string { data := #[] }, Value.int IntKind.i64 0] 33))
    (fun i _ => n - (intOf i).toNat)
  case atStart => exact ⟨1, by omega, by omega, by simp, fun j hj => by obtain rfl : j = 0 := (by omega); exact HD.out, rfl⟩
  case round =>
    obtain ⟨k, hk0, hk, rfl, hall, rfl⟩ := hrel
    by_cases hlt : a + k < n
    · have hb2 := sub_at z n (a + k) (by rw [hs]; exact hlt) (HZ.out (a + k) hlt)
      go_wp2_with fail
      refine (ref_digit (z (a + k)) _).mono ?_
      rintro e w4 ⟨rfl, rfl⟩
      cases hd : isDigit (z (a + k))
      · have HD2 := hid hd
        clear hd
        have hrun := hid (⟨hk, hall.out, fun _ => HD2.out⟩ : IsRun isDigit n z a k)
        go_wp2_with fail
        refine (ref_letter (z (a + k)) _).mono ?_
        rintro e w4 ⟨rfl, rfl⟩
        cases hl : isLetter (z (a + k))
        · have HL2 := hid hl
          clear hl
          by_cases h95 : z (a + k) = 95
          · have h95b : (z (a + k) == 95) = true := by simp [h95]
            have HI := hid (inner_under h95)
            clear h95
            go_wp2_with fail
            exact bodyPost_ret (v := .tuple #[.agg #[.int .i64 0, .string ⟨#[]⟩, .int .i64 0], .int .i64 ((a : Int) + (k : Int))]) (by simp [results, Try.results21, go_sem]) rfl (told_no (p := a + k) rfl (by omega) hlt (.ill a k ha HD.out hrun.out hlt HI.out) ((Below.refl _ _).alloc (Nat.le_refl _) _))
          · have h95b : (z (a + k) == 95) = false := by simp [h95]
            have HI := hid (inner_none HL2.out HD2.out h95)
            clear h95
            have hext : (sub z 0 n).extract a (a + k) = sub z a k := sub_ext z n a k hk
            go_wp2_with fail
            exact bodyPost_ret (v := .tuple #[.agg #[.int .i64 2, .string (sub z a k), .int .i64 a], .int .i64 (-1)]) (by simp [results, Try.results21, go_sem]) rfl (told_ok rfl hk0 hk (fun l r h => .num a k l r ha HD.out hrun.out (fun _ => HI.out) h) ((Below.refl _ _).alloc (Nat.le_refl _) _))
        · have HI := hid (inner_letter hl)
          clear hl
          go_wp2_with fail
          exact bodyPost_ret (v := .tuple #[.agg #[.int .i64 0, .string ⟨#[]⟩, .int .i64 0], .int .i64 ((a : Int) + (k : Int))]) (by simp [results, Try.results21, go_sem]) rfl (told_no (p := a + k) rfl (by omega) hlt (.ill a k ha HD.out hrun.out hlt HI.out) ((Below.refl _ _).alloc (Nat.le_refl _) _))
      · have HI := hid hd
        clear hd
        go_wp2_with fail
        go_roundw
        case rel => exact ⟨k + 1, by omega, by omega, by simp; omega, fun j hj => by
          rcases Nat.lt_or_ge j k with h | h
          · exact hall.out j h
          · obtain rfl : j = k := by omega
            exact HI.out, trivial⟩
        case measure => simp [intOf]; omega
    · have hrun := hid (⟨hk, hall.out, fun h => absurd h hlt⟩ : IsRun isDigit n z a k)
      have hext : (sub z 0 n).extract a (a + k) = sub z a k := sub_ext z n a k hk
      go_wp2_with fail
      exact bodyPost_ret (v := .tuple #[.agg #[.int .i64 2, .string (sub z a k), .int .i64 a], .int .i64 (-1)]) (by simp [results, Try.results21, go_sem]) rfl (told_ok rfl hk0 hk (fun l r h => .num a k l r ha HD.out hrun.out (fun h => absurd h hlt) h) ((Below.refl _ _).alloc (Nat.le_refl _) _))

theorem ref_next (n : Nat) (z : Nat → Int) (a : Nat) (w : World) (hn : n ≤ 65536) (ha : a < n) (hz : ∀ j, j < n → 0 ≤ z j ∧ z j ≤ 255) (hbl : isBlank (z a) = false) (h35 : z a ≠ 35) :
    Calls Try.prog 21 #[.string (sub z 0 n), .int .i64 a] w (NextTold n z a w) := by
  cases hL : isLetter (z a)
  · cases hD : isDigit (z a)
    · exact next_mark n z a w hn ha hz hbl h35 hL hD
    · exact next_num n z a w hn ha hz hL hD
  · exact next_word n z a w hn ha hz hL
end Go.Proofs.Ytomnomljljkdfaa
