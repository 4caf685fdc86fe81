/- Tokens in a block; the contract of Lex by them. Conditions: none. -/
import Derived.Test.YtomnomljljkdfaaShown
namespace Go.Proofs.Ytomnomljljkdfaa
open Go.RowKit
set_option linter.unusedVariables false

theorem u8_wf {x : Int} (h : (Lit.int .u8 x).wf = true) : 0 ≤ x ∧ x ≤ 255 := by
  have h0 : IntKind.u8.min = 0 := by decide
  have h1 : IntKind.u8.max = 255 := by decide
  simp only [Lit.wf, h0, h1, Bool.and_eq_true, decide_eq_true_eq] at h
  exact h

/-- Block g holds these tokens. -/
def Toks (w : World) (g : Nat) (z : Nat → Int) (T : List Tok) : Prop := ∃ cs, Blk w g 32 cs ∧ ∀ j, j < T.length * 3 → cs[j]? = (flat z T)[j]?
theorem flat_get (z : Nat → Int) : ∀ (T : List Tok) (i : Nat) (t : Tok) (j : Nat), T[i]? = some t → j < 3 → (flat z T)[i * 3 + j]? = (tok3 z t)[j]?
  | [], i, t, j, h, hj => by simp at h
  | u :: T, 0, t, j, h, hj => by
    have h : u = t := by simpa using h
    subst h
    show (tok3 z u ++ flat z T)[0 * 3 + j]? = _
    rw [Nat.zero_mul, Nat.zero_add, List.getElem?_append_left (by simp [tok3]; omega)]
  | u :: T, i + 1, t, j, h, hj => by
    show (tok3 z u ++ flat z T)[(i + 1) * 3 + j]? = _
    rw [List.getElem?_append_right (by simp [tok3]; omega)]
    have : (i + 1) * 3 + j - (tok3 z u).length = i * 3 + j := by simp [tok3]; omega
    rw [this]
    exact flat_get z T i t j (by simpa using h) hj
section
variable {w w' : World} {g : Nat} {z : Nat → Int} {T : List Tok}
theorem Toks.lt (h : Toks w g z T) : g < w.heap.size := by obtain ⟨cs, hb, _⟩ := h; exact hb.lt
theorem Toks.below {B : Nat} (h : Toks w g z T) (hb : Below B w w') (hg : g < B) : Toks w' g z T := by obtain ⟨cs, h1, h2⟩ := h; exact ⟨cs, h1.below hb hg, h2⟩
theorem Toks.drewN (h : Toks w g z T) (m : Nat) : Toks (w.drewN m) g z T := h
theorem Toks.alloc (h : Toks w g z T) (o : Obj) : Toks (w.alloc o) g z T := by obtain ⟨cs, h1, h2⟩ := h; exact ⟨cs, h1.alloc o, h2⟩
theorem Toks.at_ (h : Toks w g z T) {i : Nat} {t : Tok} (ht : T[i]? = some t) :
    w.cell? ⟨g, i * 3, none⟩ = some (.int .i64 t.kind) ∧ w.cell? ⟨g, i * 3 + 1, none⟩ = some (.string (sub z t.at_ t.size)) ∧ w.cell? ⟨g, i * 3 + 2, none⟩ = some (.int .i64 t.at_) := by
  obtain ⟨cs, h1, h2⟩ := h
  have hi : i < T.length := (List.getElem?_eq_some_iff.1 ht).1
  refine ⟨(h1.cell _).trans ((h2 _ (by omega)).trans ?_), (h1.cell _).trans ((h2 _ (by omega)).trans ?_), (h1.cell _).trans ((h2 _ (by omega)).trans ?_)⟩
  · exact flat_get z T i t 0 ht (by omega)
  · exact flat_get z T i t 1 ht (by omega)
  · exact flat_get z T i t 2 ht (by omega)
end

/-- Lex, by what it answers. -/
theorem lex_toks (a : Option Addr) (n cap : Nat) (z : Nat → Int) (w : World) (hr : Row w a n (fun i => .int .u8 (z i))) (hz : ∀ j, j < n → 0 ≤ z j ∧ z j ≤ 255) (hn : n ≤ 65536) :
    Calls Try.prog 11 #[.slice a n cap] w fun e w' => ((∃ l g c, Lexes n z 0 l none ∧ e = .returned (.tuple #[.slice (some ⟨g, 0, none⟩) (l.length + 1) c, .int .i64 0, .int .i64 0]) ∧ w.heap.size ≤ g ∧ l.length + 1 ≤ c ∧ Toks w' g z (l ++ [⟨4, n, 0⟩])) ∨
      (∃ l p, Lexes n z 0 l (some p) ∧ e = .returned (.tuple #[.slice none 0 0, .int .i64 (p : Nat), .int .i64 2]))) ∧ Below w.heap.size w w' := by
  refine (lex_any a n cap z w hr hz hn).mono ?_
  rintro e w' ⟨⟨l, r, h1, h2⟩, h3⟩
  refine ⟨?_, h3⟩
  rcases r with _ | p
  · obtain ⟨g, c, cs, rfl, hg, hB, hc, hcs⟩ := h2
    exact .inl ⟨l, g, c, h1, rfl, hg, hc, cs, hB, fun j hj => hcs j (by simpa using hj)⟩
  · exact .inr ⟨l, p, h1, h2⟩

theorem Lexes.len {n : Nat} {z : Nat → Int} {a : Nat} {l : List Tok} {r : Option Nat} (h : Lexes n z a l r) : a + l.length ≤ n := by
  induction h with
  | stop => simp
  | blank a l r _ _ _ ih => omega
  | note a k l r _ _ _ _ ih => omega
  | word a k l r ha hb hr _ _ ih => have := hr.pos ha (by unfold isInner; rw [hb]; rfl); simp; omega
  | long a k ha => simp; omega
  | num a k l r ha hb hr _ _ ih => have := hr.pos ha hb; simp; omega
  | ill a k ha => simp; omega
  | same a l r _ _ _ _ ih => simp; omega
  | mark a l r _ _ _ _ ih => simp; omega
  | wrong a ha => simp; omega

/-- A cut ahead of a token. -/
theorem Lexes.cut {n : Nat} {z : Nat → Int} {a : Nat} {l : List Tok} {r : Option Nat} (h : Lexes n z a l r) (hr : r = none) : ∀ (i : Nat) (t : Tok), (l ++ [⟨4, n, 0⟩])[i]? = some t → a ≤ t.at_ ∧ t.at_ ≤ n ∧ Lexes t.at_ z a (l.take i) none := by
  induction h with
  | stop =>
    intro i t ht
    rcases i with _ | i
    · simp at ht
      subst ht
      exact ⟨Nat.le_refl _, Nat.le_refl _, .stop⟩
    · simp at ht
  | blank a l r ha hb _ ih =>
    intro i t ht
    obtain ⟨h1, h2, h3⟩ := ih hr i t ht
    exact ⟨by omega, h2, .blank _ _ _ (by omega) hb h3⟩
  | note a k l r ha hb hrn _ ih =>
    intro i t ht
    obtain ⟨h1, h2, h3⟩ := ih hr i t ht
    have := hrn.pos ha (by rw [hb]; rfl)
    exact ⟨by omega, h2, .note _ _ _ _ (by omega) hb ⟨h1, hrn.all, fun h => hrn.stop (by omega)⟩ h3⟩
  | word a k l r ha hb hrn hk _ ih =>
    intro i t ht
    rcases i with _ | i
    · simp at ht
      subst ht
      exact ⟨Nat.le_refl _, by show a ≤ n; omega, .stop⟩
    · obtain ⟨h1, h2, h3⟩ := ih hr i t (by simpa using ht)
      have := hrn.pos ha (by unfold isInner; rw [hb]; rfl)
      exact ⟨by omega, h2, .word _ _ _ _ (by omega) hb ⟨h1, hrn.all, fun h => hrn.stop (by omega)⟩ hk h3⟩
  | long => cases hr
  | num a k l r ha hb hrn hk _ ih =>
    intro i t ht
    rcases i with _ | i
    · simp at ht
      subst ht
      exact ⟨Nat.le_refl _, by show a ≤ n; omega, .stop⟩
    · obtain ⟨h1, h2, h3⟩ := ih hr i t (by simpa using ht)
      have := hrn.pos ha hb
      exact ⟨by omega, h2, .num _ _ _ _ (by omega) hb ⟨h1, hrn.all, fun h => hrn.stop (by omega)⟩ (fun h => hk (by omega)) h3⟩
  | ill => cases hr
  | same a l r ha h0 hb _ ih =>
    intro i t ht
    rcases i with _ | i
    · simp at ht
      subst ht
      exact ⟨Nat.le_refl _, by show a ≤ n; omega, .stop⟩
    · obtain ⟨h1, h2, h3⟩ := ih hr i t (by simpa using ht)
      exact ⟨by omega, h2, .same _ _ _ (by omega) h0 hb h3⟩
  | mark a l r ha h0 hb _ ih =>
    intro i t ht
    rcases i with _ | i
    · simp at ht
      subst ht
      exact ⟨Nat.le_refl _, by show a ≤ n; omega, .stop⟩
    · obtain ⟨h1, h2, h3⟩ := ih hr i t (by simpa using ht)
      exact ⟨by omega, h2, .mark _ _ _ (by omega) h0 (fun h => hb ⟨h.1, by omega, h.2.2⟩) h3⟩
  | wrong => cases hr
end Go.Proofs.Ytomnomljljkdfaa
