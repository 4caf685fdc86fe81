/- What stands ahead of a token: blanks and comments. Conditions: none. -/
import Derived.Test.YtomnomljljkdfaaJoin
import Derived.Laws.Strings
namespace Go.Proofs.Ytomnomljljkdfaa
open Go.RowKit
set_option linter.unusedVariables false

theorem Lexes.wrong_lt {n : Nat} {z : Nat → Int} {a : Nat} {l : List Tok} {r : Option Nat} (h : Lexes n z a l r) : ∀ p, r = some p → p < n := by
  induction h with
  | stop => intro p h; cases h
  | blank _ _ _ _ _ _ ih => exact ih
  | note _ _ _ _ _ _ _ _ ih => exact ih
  | word _ _ _ _ _ _ _ _ _ ih => exact ih
  | long a k ha => intro p h; injection h with h; omega
  | num _ _ _ _ _ _ _ _ _ ih => exact ih
  | ill a k _ _ _ hk => intro p h; injection h with h; omega
  | same _ _ _ _ _ _ _ ih => exact ih
  | mark _ _ _ _ _ _ _ ih => exact ih
  | wrong a ha => intro p h; injection h with h; omega

/-- Where the first token stands. -/
def headAt (n : Nat) : List Tok → Nat
  | [] => n
  | t :: _ => t.at_
/-- One step ahead of the first token. -/
theorem Lexes.step {n : Nat} {z : Nat → Int} {a : Nat} {l : List Tok} {r : Option Nat} (h : Lexes n z a l r) (hr : r = none) (ha : a < headAt n l) :
    (isBlank (z a) = true ∧ Lexes n z (a + 1) l r) ∨ (z a = 35 ∧ ∃ k, IsRun notEnd n z a k ∧ 0 < k ∧ Lexes n z (a + k) l r) := by
  cases h with
  | stop => exact absurd ha (Nat.lt_irrefl _)
  | blank _ _ _ _ hb h => exact .inl ⟨hb, h⟩
  | note _ k _ _ hl hb hrn h => exact .inr ⟨hb, k, hrn, hrn.pos hl (by rw [hb]; rfl), h⟩
  | word => exact absurd ha (Nat.lt_irrefl _)
  | long => cases hr
  | num => exact absurd ha (Nat.lt_irrefl _)
  | ill => cases hr
  | same => exact absurd ha (Nat.lt_irrefl _)
  | mark => exact absurd ha (Nat.lt_irrefl _)
  | wrong => cases hr
theorem Lexes.head_le {n : Nat} {z : Nat → Int} {a : Nat} {l : List Tok} {r : Option Nat} (h : Lexes n z a l r) (hr : r = none) : a ≤ headAt n l ∧ headAt n l ≤ n := by
  rcases l with _ | ⟨t, l⟩
  · have := h.len
    simp at this
    exact ⟨this, Nat.le_refl _⟩
  · have := h.ends t (by simp)
    exact ⟨this.1, by show t.at_ ≤ n; omega⟩
/-- At the first token. -/
theorem Lexes.tail {n : Nat} {z : Nat → Int} {a : Nat} {l : List Tok} {r : Option Nat} (h : Lexes n z a l r) : ∀ (t : Tok) (l2 : List Tok), l = t :: l2 → (t.kind = 1 ∨ t.kind = 2 ∨ t.kind = 3) ∧ 0 < t.size ∧ t.at_ + t.size ≤ n ∧ Lexes n z (t.at_ + t.size) l2 r ∧ isBlank (z t.at_) = false := by
  have hL : ∀ c, isLetter c = true → isBlank c = false := fun c h => (letter_not h).1
  have hD : ∀ c, isDigit c = true → isBlank c = false := fun c h => (digit_not h).1
  have hM : ∀ c, isMark c = true → isBlank c = false := fun c h => (mark_not h).1
  induction h with
  | stop => intro t l2 h; cases h
  | blank a l r _ _ _ ih => exact ih
  | note a k l r _ _ _ _ ih => exact ih
  | word a k l r ha hb hr _ h ih =>
    intro t l2 e
    injection e with e1 e2
    subst e1 e2
    exact ⟨.inl rfl, hr.pos ha (by unfold isInner; rw [hb]; rfl), hr.fit, h, hL _ hb⟩
  | long => intro t l2 h; cases h
  | num a k l r ha hb hr _ h ih =>
    intro t l2 e
    injection e with e1 e2
    subst e1 e2
    exact ⟨.inr (.inl rfl), hr.pos ha hb, hr.fit, h, hD _ hb⟩
  | ill => intro t l2 h; cases h
  | same a l r ha h0 h1 h ih =>
    intro t l2 e
    injection e with e1 e2
    subst e1 e2
    exact ⟨.inr (.inr rfl), by show 0 < 2; omega, by show a + 2 ≤ n; omega, h, hM _ (by rw [h0]; rfl)⟩
  | mark a l r ha h0 h1 h ih =>
    intro t l2 e
    injection e with e1 e2
    subst e1 e2
    exact ⟨.inr (.inr rfl), by show 0 < 1; omega, by show a + 1 ≤ n; omega, h, hM _ h0⟩
  | wrong => intro t l2 h; cases h

/-- Between two tokens, in a comment or not. -/
def Gap (n : Nat) (z : Nat → Int) (L : List Tok) (q : Nat) (c : Bool) : Prop :=
  (c = false ∧ Lexes n z q L none) ∨ (c = true ∧ ∃ m, q ≤ m ∧ m ≤ n ∧ (∀ j, q ≤ j → j < m → z j ≠ 10) ∧ (m < n → z m = 10) ∧ Lexes n z m L none)
def upd (c : Bool) (b : Int) : Bool := if b = 10 then false else if b = 35 then true else c
theorem blank_not35 {c : Int} (h : isBlank c = true) : c ≠ 35 := by
  rintro rfl
  revert h
  decide
theorem Gap.step {n : Nat} {z : Nat → Int} {L : List Tok} {q : Nat} {c : Bool} (h : Gap n z L q c) (hq : q < headAt n L) :
    Gap n z L (q + 1) (upd c (z q)) ∧ (upd c (z q) = true ∨ isBlank (z q) = true) := by
  rcases h with ⟨rfl, h⟩ | ⟨rfl, m, h1, h2, h3, h4, h5⟩
  · rcases h.step rfl hq with ⟨hb, h⟩ | ⟨h35, k, hrn, hk, h⟩
    · have e : upd false (z q) = false := by
        unfold upd
        rw [if_neg (blank_not35 hb)]
        split <;> rfl
      rw [e]
      exact ⟨.inl ⟨rfl, h⟩, .inr hb⟩
    · have e : upd false (z q) = true := by
        unfold upd
        rw [h35]; rfl
      rw [e]
      refine ⟨.inr ⟨rfl, q + k, by omega, hrn.fit, fun j hj hjm => ?_, fun hm => ?_, h⟩, .inl rfl⟩
      · have := hrn.all (j - q) (by omega)
        rw [show q + (j - q) = j from by omega] at this
        simpa [notEnd] using this
      · have := hrn.stop hm
        simpa [notEnd] using this
  · rcases Nat.lt_or_ge q m with hl | hl
    · have h10 := h3 q (Nat.le_refl _) hl
      have e : upd true (z q) = true := by
        unfold upd
        rw [if_neg h10]
        split <;> rfl
      rw [e]
      exact ⟨.inr ⟨rfl, m, hl, h2, fun j hj hjm => h3 j (by omega) hjm, h4, h5⟩, .inl rfl⟩
    · obtain rfl : m = q := by omega
      have hh := h5.head_le rfl
      have h10 := h4 (by omega)
      have e : upd true (z m) = false := by
        unfold upd
        rw [if_pos h10]
      rw [e]
      have hb : isBlank (z m) = true := by rw [h10]; rfl
      rcases h5.step rfl hq with ⟨_, h⟩ | ⟨h35, _⟩
      · exact ⟨.inl ⟨rfl, h⟩, .inr hb⟩
      · exact absurd h35 (blank_not35 hb)
theorem Gap.at_head {n : Nat} {z : Nat → Int} {t : Tok} {L : List Tok} {c : Bool} (h : Gap n z (t :: L) t.at_ c) : c = false := by
  rcases h with ⟨rfl, h⟩ | ⟨rfl, m, h1, h2, h3, h4, h5⟩
  · rfl
  · have h6 := (h5.head_le rfl).1
    obtain ⟨_, h7, h8, _, h9⟩ := h5.tail t L rfl
    have h10 : t.at_ = m := by
      have : m ≤ t.at_ := h6
      omega
    rw [h10] at h9
    rw [h4 (by omega)] at h9
    cases h9
theorem Gap.start {n : Nat} {z : Nat → Int} {L : List Tok} {q : Nat} (h : Lexes n z q L none) : Gap n z L q false := .inl ⟨rfl, h⟩

/-- The tokens from the i-th on. -/
theorem Lexes.after {n : Nat} {z : Nat → Int} {a : Nat} {l : List Tok} (h : Lexes n z a l none) {i : Nat} {t : Tok} (ht : l[i]? = some t) {q : Nat} (hq : Lexes n z q (l.drop i) none) : Lexes n z (t.at_ + t.size) (l.drop (i + 1)) none := by
  have hi := (List.getElem?_eq_some_iff.1 ht).1
  have e : l.drop i = t :: l.drop (i + 1) := by
    rw [List.drop_eq_getElem_cons hi]
    congr 1
    exact (List.getElem?_eq_some_iff.1 ht).2
  exact (hq.tail t _ e).2.2.2.1

/-- What holds ahead of the i-th token. -/
def Stand (n : Nat) (z : Nat → Int) (l : List Tok) (i at_ : Nat) (c : Bool) : Prop :=
  (i ≤ l.length → c = false ∧ Lexes n z at_ (l.drop i) none) ∧ (i = l.length + 1 → at_ = n)

theorem stand_tok {n : Nat} {z : Nat → Int} {l : List Tok} {i at_ : Nat} {cc : Bool} (hs : Stand n z l i at_ cc) (hi : i ≤ l.length) :
    ∃ (t : Tok) (E : Bool) (L : List Tok), (l ++ [⟨4, n, 0⟩])[i]? = some t ∧ at_ ≤ t.at_ ∧ t.at_ + t.size ≤ n ∧ (t.kind == 4) = E ∧ (t.kind != 4) = !E ∧ (t.size == 0) = E ∧ ((i : Int) == (l.length : Int)) = E ∧ cc = false ∧ Gap n z L at_ false ∧
      (∀ q c, Gap n z L q c → q < t.at_ → Gap n z L (q + 1) (upd c (z q)) ∧ (upd c (z q) = true ∨ isBlank (z q) = true)) ∧
      (∀ c, Gap n z L t.at_ c → c = true → E = true) ∧ (∀ c, Gap n z L t.at_ c → Stand n z l (i + 1) (t.at_ + t.size) c) := by
  obtain ⟨rfl, hlx⟩ := hs.1 hi
  rcases Nat.lt_or_ge i l.length with hlt | hge
  · obtain ⟨t, ht⟩ : ∃ t, l[i]? = some t := ⟨_, List.getElem?_eq_getElem hlt⟩
    have hdrop : l.drop i = t :: l.drop (i + 1) := by
      rw [List.drop_eq_getElem_cons hlt]
      congr 1
      exact (List.getElem?_eq_some_iff.1 ht).2
    obtain ⟨tk, ts, tf, tl, tb⟩ := hlx.tail t _ hdrop
    have hhd := (hlx.head_le rfl).1
    rw [hdrop] at hlx hhd
    refine ⟨t, false, t :: l.drop (i + 1), by rw [List.getElem?_append_left hlt]; exact ht, hhd, tf, ?_, ?_, ?_, ?_, rfl, Gap.start hlx, fun q c h hq => h.step (hq : q < headAt n (t :: l.drop (i + 1))), fun c h hc => ?_, fun c h => ?_⟩
    · rcases tk with h | h | h <;> rw [h] <;> rfl
    · rcases tk with h | h | h <;> rw [h] <;> rfl
    · simp; omega
    · simp; omega
    · rw [h.at_head] at hc; cases hc
    · exact ⟨fun _ => ⟨h.at_head, tl⟩, fun h => by omega⟩
  · obtain rfl : i = l.length := by omega
    have e : l.drop l.length = [] := List.drop_length
    rw [e] at hlx
    have hhd := (hlx.head_le rfl).1
    refine ⟨⟨4, n, 0⟩, true, [], by simp, hhd, Nat.le_refl _, rfl, rfl, rfl, by simp, rfl, Gap.start hlx, fun q c h hq => h.step (hq : q < headAt n []), fun c h hc => rfl, fun c h => ⟨fun h => by omega, fun _ => rfl⟩⟩

theorem text_empty (s : ByteArray) : s.toList.isEmpty = (s.size == 0) := by
  rw [ByteArray.toList_eq]
  have : s.size = s.data.toList.length := rfl
  rw [this]
  cases s.data.toList <;> rfl

/-- A slice of a slice of bytes. -/
theorem slice_any (a : Option Addr) (n cap lo k : Nat) (h : lo + k ≤ cap) (w : World) :
    (Instr.slice 22 (.slice a n cap) (some (.int .i64 lo)) (some (.int .i64 ((lo : Int) + (k : Int)))) none).run Try.prog w = .ok (.slice (if cap = lo then a else a.map (·.add (lo * 1))) k (cap - lo)) w := by
  have hu : Try.prog.underlying 22 = some (.slice (Try.prog.elem 22)) := by kernel_rfl
  have he : Try.prog.elem 22 = 5 := by kernel_rfl
  rw [run_slice_lh w 22 a n cap hu .i64 .i64 (lo : Int) ((lo : Int) + (k : Int)) (by omega) (by omega) (by omega), he]
  rw [show ((lo : Int).toNat) = lo from by omega, show ((lo : Int) + (k : Int)).toNat = lo + k from by omega]
  have hs : (sizeOf 5).run Try.prog w = .ok 1 w := by
    have h5 := Try.sizeOf5
    simp [h5, go_sem]
  rw [hs]
  simp [Result.andThen, sliced, show lo + k - lo = k from by omega]
theorem slice_row {a : Option Addr} {n cap lo k : Nat} (hk : lo + k ≤ n) (hn : n ≤ cap) {z : Nat → Int} {w : World} (hr : Row w a n (fun i => .int .u8 (z i))) : Row w (if cap = lo then a else a.map (·.add (lo * 1))) k (fun i => .int .u8 (z (lo + i))) := by
  intro i hi
  obtain ⟨b, off, rfl, hc⟩ := hr (lo + i) (by omega)
  refine ⟨b, off + lo, ?_, by rw [Nat.add_assoc]; exact hc⟩
  rw [if_neg (by omega), Nat.mul_one]
  show some ((Addr.mk b off none).add lo) = _
  congr 1
  unfold Addr.add; split <;> simp_all
theorem conv_sub {a : Option Addr} {n cap lo k c : Nat} (hk : lo + k ≤ n) (hn : n ≤ cap) {z : Nat → Int} {w : World} (hr : Row w a n (fun i => .int .u8 (z i))) (hz : ∀ j, j < n → 0 ≤ z j ∧ z j ≤ 255) :
    (convert 22 9 (.slice (if cap = lo then a else a.map (·.add (lo * 1))) k c)).run Try.prog w = .ok (.string (sub z lo k)) w := by
  have := conv_any _ k c (fun i => z (lo + i)) w (slice_row hk hn hr) (fun j hj => hz _ (by omega))
  rw [this]
  congr 2
  unfold sub
  congr 1
  apply List.map_congr_left
  intro j hj
  show z (lo + (0 + j)) = _
  rw [Nat.zero_add]
end Go.Proofs.Ytomnomljljkdfaa
