/- Bytes behind bytes: the tokens of both. Conditions: none. -/
import Derived.Test.YtomnomljljkdfaaToks
namespace Go.Proofs.Ytomnomljljkdfaa
open Go.RowKit
set_option linter.unusedVariables false

theorem Lexes.at_end {n : Nat} {z : Nat → Int} {l : List Tok} {r : Option Nat} (h : Lexes n z n l r) : l = [] ∧ r = none := by
  have := h.unique .stop
  exact this

/-- Behind bytes that are right stands a byte that ends what is there. -/
theorem Lexes.join {n : Nat} {z : Nat → Int} {a : Nat} {l : List Tok} {r : Option Nat} (h : Lexes n z a l r) (hr : r = none) {N : Nat} {y : Nat → Int} {l2 : List Tok} {r2 : Option Nat} (hN : n < N) (he : ∀ j, j < n → y j = z j)
    (hs : isInner (y n) = false) (h61 : y n ≠ 61) (h0 : Lexes N y n l2 r2) (h1 : ∀ a k, y a = 35 → a < n → a + k = n → (∀ j, j < k → notEnd (y (a + j)) = true) → Lexes N y a l2 r2) : Lexes N y a (l ++ l2) r2 := by
  have run : ∀ (p : Int → Bool) (a k : Nat), p (y n) = false → IsRun p n z a k → IsRun p N y a k := by
    intro p a k hp hk
    have hf := hk.fit
    refine ⟨by omega, fun j hj => by rw [he _ (by omega)]; exact hk.all j hj, fun _ => ?_⟩
    rcases Nat.lt_or_ge (a + k) n with hl | hl
    · rw [he _ hl]; exact hk.stop hl
    · rw [show a + k = n from by omega]; exact hp
  have hsd : isDigit (y n) = false := by
    cases hd : isDigit (y n)
    · rfl
    · unfold isInner at hs; rw [hd] at hs; simp at hs
  induction h with
  | stop => exact h0
  | blank a l r ha hb _ ih => exact .blank _ _ _ (by omega) (by rw [he _ ha]; exact hb) (ih hr)
  | note a k l r ha hb hrn h ih =>
    have hf := hrn.fit
    rcases Nat.lt_or_ge (a + k) n with hl | hl
    · exact .note _ k _ _ (by omega) (by rw [he _ ha]; exact hb) ⟨by omega, fun j hj => by rw [he _ (by omega)]; exact hrn.all j hj, fun _ => by rw [he _ hl]; exact hrn.stop hl⟩ (ih hr)
    · have e : a + k = n := by omega
      have : l = [] := by rw [e] at h; exact h.at_end.1
      subst this
      exact h1 a k (by rw [he _ ha]; exact hb) ha e (fun j hj => by rw [he _ (by omega)]; exact hrn.all j hj)
  | word a k l r ha hb hrn hk _ ih => exact .word _ _ _ _ (by omega) (by rw [he _ ha]; exact hb) (run _ _ _ hs hrn) hk (ih hr)
  | long => cases hr
  | num a k l r ha hb hrn hk _ ih =>
    have hf := hrn.fit
    refine .num _ _ _ _ (by omega) (by rw [he _ ha]; exact hb) (run _ _ _ hsd hrn) (fun _ => ?_) (ih hr)
    rcases Nat.lt_or_ge (a + k) n with hl | hl
    · rw [he _ hl]; exact hk hl
    · rw [show a + k = n from by omega]; exact hs
  | ill => cases hr
  | same a l r ha h0 hb _ ih => exact .same _ _ _ (by omega) (by rw [he _ (by omega)]; exact h0) (by rw [he _ ha]; exact hb) (ih hr)
  | mark a l r ha h0 hb _ ih =>
    refine .mark _ _ _ (by omega) (by rw [he _ ha]; exact h0) (fun hc => ?_) (ih hr)
    rw [he _ ha] at hc
    rcases Nat.lt_or_ge (a + 1) n with hl | hl
    · rw [he _ hl] at hc; exact hb ⟨hc.1, hl, hc.2.2⟩
    · rw [show a + 1 = n from by omega] at hc; exact h61 hc.2.2
  | wrong => cases hr

/-- A comment behind bytes that are right. -/
theorem Lexes.comment {n : Nat} {z : Nat → Int} {l : List Tok} (h : Lexes n z 0 l none) {N : Nat} {y : Nat → Int} (hN : n < N) (he : ∀ j, j < n → y j = z j) (h35 : y n = 35) (hne : ∀ j, n < j → j < N → y j ≠ 10) : Lexes N y 0 l none := by
  have tail : ∀ a, a ≤ n → (∀ j, a ≤ j → j < N → notEnd (y j) = true) → y a = 35 → Lexes N y a [] none := by
    intro a ha hall h
    refine .note a (N - a) [] none (by omega) h ⟨by omega, fun j hj => hall _ (by omega) (by omega), fun hh => by omega⟩ ?_
    rw [show a + (N - a) = N from by omega]
    exact .stop
  have rest : ∀ j, n ≤ j → j < N → notEnd (y j) = true := by
    intro j hj hjN
    rcases Nat.lt_or_ge n j with hl | hl
    · simp [notEnd, hne j hl hjN]
    · rw [show j = n from by omega, h35]; rfl
  have := h.join rfl (l2 := []) (r2 := none) hN he (by rw [h35]; rfl) (by rw [h35]; decide) (tail n (Nat.le_refl _) rest h35) (fun a k ha hl e hall => tail a (by omega) (fun j h1 h2 => by
    rcases Nat.lt_or_ge j n with hl2 | hl2
    · have := hall (j - a) (by omega)
      rwa [show a + (j - a) = j from by omega] at this
    · exact rest j hl2 h2) ha)
  rwa [List.append_nil] at this

theorem Lexes.ends {n : Nat} {z : Nat → Int} {a : Nat} {l : List Tok} {r : Option Nat} (h : Lexes n z a l r) : ∀ t ∈ l, a ≤ t.at_ ∧ 0 < t.size ∧ t.at_ + t.size ≤ n := by
  induction h with
  | stop => intro t ht; cases ht
  | blank a l r _ _ _ ih => intro t ht; obtain ⟨h1, h2⟩ := ih t ht; exact ⟨by omega, h2⟩
  | note a k l r _ _ _ _ ih => intro t ht; obtain ⟨h1, h2⟩ := ih t ht; exact ⟨by omega, h2⟩
  | word a k l r ha hb hr _ _ ih =>
    intro t ht
    rcases List.mem_cons.1 ht with rfl | ht
    · exact ⟨Nat.le_refl _, hr.pos ha (by unfold isInner; rw [hb]; rfl), hr.fit⟩
    · obtain ⟨h1, h2⟩ := ih t ht; exact ⟨by omega, h2⟩
  | long => intro t ht; cases ht
  | num a k l r ha hb hr _ _ ih =>
    intro t ht
    rcases List.mem_cons.1 ht with rfl | ht
    · exact ⟨Nat.le_refl _, hr.pos ha hb, hr.fit⟩
    · obtain ⟨h1, h2⟩ := ih t ht; exact ⟨by omega, h2⟩
  | ill => intro t ht; cases ht
  | same a l r ha _ _ _ ih =>
    intro t ht
    rcases List.mem_cons.1 ht with rfl | ht
    · exact ⟨Nat.le_refl _, by show 0 < 2; omega, by show a + 2 ≤ n; omega⟩
    · obtain ⟨h1, h2⟩ := ih t ht; exact ⟨by omega, h2⟩
  | mark a l r ha _ _ _ ih =>
    intro t ht
    rcases List.mem_cons.1 ht with rfl | ht
    · exact ⟨Nat.le_refl _, by show 0 < 1; omega, by show a + 1 ≤ n; omega⟩
    · obtain ⟨h1, h2⟩ := ih t ht; exact ⟨by omega, h2⟩
  | wrong => intro t ht; cases ht
theorem sub_congr {y z : Nat → Int} {a k : Nat} (h : ∀ j, a ≤ j → j < a + k → y j = z j) : sub y a k = sub z a k := by
  unfold sub
  congr 1
  apply List.map_congr_left
  intro j hj
  exact h _ (by omega) (by have := List.mem_range.1 hj; omega)
end Go.Proofs.Ytomnomljljkdfaa
