/- Tokens with a space behind each are the same tokens; bytes behind bytes, a line's end between. Conditions: none. -/
import Derived.Test.YtomnomljljkdfaaGrow
import Derived.Test.YtomnomljljkdfaaJoin
namespace Go.Proofs.Ytomnomljljkdfaa
open Go.RowKit
set_option linter.unusedVariables false

/-! ### A space behind each -/
/-- The bytes of a token by themselves. -/
def TokOk (z : Nat → Int) (t : Tok) : Prop :=
  (t.kind = 1 ∧ 0 < t.size ∧ t.size ≤ 32 ∧ isLetter (z t.at_) = true ∧ ∀ j, j < t.size → isInner (z (t.at_ + j)) = true) ∨
  (t.kind = 2 ∧ 0 < t.size ∧ ∀ j, j < t.size → isDigit (z (t.at_ + j)) = true) ∨
  (t.kind = 3 ∧ t.size = 2 ∧ z t.at_ = 61 ∧ z (t.at_ + 1) = 61) ∨
  (t.kind = 3 ∧ t.size = 1 ∧ isMark (z t.at_) = true)
theorem Lexes.toks {n : Nat} {z : Nat → Int} {a : Nat} {l : List Tok} {r : Option Nat} (h : Lexes n z a l r) : ∀ t ∈ l, TokOk z t := by
  induction h with
  | stop => intro t ht; cases ht
  | blank _ _ _ _ _ _ ih => exact ih
  | note _ _ _ _ _ _ _ _ ih => exact ih
  | word a k l r ha hb hr hk _ ih =>
    intro t ht
    rcases List.mem_cons.1 ht with rfl | ht
    · exact .inl ⟨rfl, hr.pos ha (inner_of_letter hb), hk, hb, hr.all⟩
    · exact ih t ht
  | long => intro t ht; cases ht
  | num a k l r ha hb hr _ _ ih =>
    intro t ht
    rcases List.mem_cons.1 ht with rfl | ht
    · exact .inr (.inl ⟨rfl, hr.pos ha hb, hr.all⟩)
    · exact ih t ht
  | ill => intro t ht; cases ht
  | same a l r ha h0 h1 _ ih =>
    intro t ht
    rcases List.mem_cons.1 ht with rfl | ht
    · exact .inr (.inr (.inl ⟨rfl, rfl, h0, h1⟩))
    · exact ih t ht
  | mark a l r ha h0 h1 _ ih =>
    intro t ht
    rcases List.mem_cons.1 ht with rfl | ht
    · exact .inr (.inr (.inr ⟨rfl, rfl, h0⟩))
    · exact ih t ht
  | wrong => intro t ht; cases ht

/-- Where each comes to stand; how many bytes. -/
def place : Nat → List Tok → List Tok
  | _, [] => []
  | p, t :: l => ⟨t.kind, p, t.size⟩ :: place (p + t.size + 1) l
def tot : Nat → List Tok → Nat
  | p, [] => p
  | p, t :: l => tot (p + t.size + 1) l
def Lay (y z : Nat → Int) : Nat → List Tok → Prop
  | _, [] => True
  | p, t :: l => (∀ j, j < t.size → y (p + j) = z (t.at_ + j)) ∧ y (p + t.size) = 32 ∧ Lay y z (p + t.size + 1) l
theorem place_len : ∀ (l : List Tok) (p : Nat), (place p l).length = l.length
  | [], p => rfl
  | t :: l, p => by simp [place, place_len l]
theorem tot_ge : ∀ (l : List Tok) (p : Nat), p + l.length ≤ tot p l
  | [], p => by simp [tot]
  | t :: l, p => by
    have := tot_ge l (p + t.size + 1)
    simp only [tot, List.length_cons]
    omega
theorem tot_snoc : ∀ (l : List Tok) (p : Nat) (t : Tok), tot p (l ++ [t]) = tot p l + t.size + 1
  | [], p, t => rfl
  | u :: l, p, t => tot_snoc l _ t
theorem tot_take : ∀ (l : List Tok) (p i : Nat), tot p (l.take i) ≤ tot p l
  | [], p, i => by simp
  | t :: l, p, 0 => by
    have := tot_ge (t :: l) p
    simp only [List.take_zero, tot] at *
    simp at this
    omega
  | t :: l, p, i + 1 => tot_take l _ i
theorem Lay.congr {y y' z : Nat → Int} : ∀ {l : List Tok} {p : Nat}, Lay y z p l → (∀ j, j < tot p l → y' j = y j) → Lay y' z p l
  | [], _, _, _ => trivial
  | t :: l, p, h, he => by
    have hg := tot_ge l (p + t.size + 1)
    have hg2 : tot p (t :: l) = tot (p + t.size + 1) l := rfl
    exact ⟨fun j hj => by rw [he _ (by omega)]; exact h.1 j hj, by rw [he _ (by omega)]; exact h.2.1, h.2.2.congr he⟩
theorem Lay.snoc {y z : Nat → Int} {t : Tok} : ∀ {l : List Tok} {p : Nat}, Lay y z p l → (∀ j, j < t.size → y (tot p l + j) = z (t.at_ + j)) → y (tot p l + t.size) = 32 → Lay y z p (l ++ [t])
  | [], _, _, h1, h2 => ⟨h1, h2, trivial⟩
  | u :: l, p, h, h1, h2 => ⟨h.1, h.2.1, h.2.2.snoc h1 h2⟩
theorem Lay.get {y z : Nat → Int} : ∀ {l : List Tok} {p : Nat}, Lay y z p l → ∀ {i : Nat} {t : Tok}, l[i]? = some t → ∃ q, (place p l)[i]? = some ⟨t.kind, q, t.size⟩ ∧ sub y q t.size = sub z t.at_ t.size
  | [], _, _, i, t, h => by simp at h
  | u :: l, p, h, 0, t, ht => by
    have e : u = t := by simpa using ht
    subst e
    refine ⟨p, rfl, ?_⟩
    unfold sub
    congr 1
    apply List.map_congr_left
    intro j hj
    exact h.1 j (List.mem_range.1 hj)
  | u :: l, p, h, i + 1, t, ht => h.2.2.get (i := i) (by simpa using ht)
theorem Lay.lexes {y z : Nat → Int} {M : Nat} : ∀ {l : List Tok} {p : Nat}, Lay y z p l → (∀ t ∈ l, TokOk z t) → tot p l < M → Lexes M y (tot p l) [] none → Lexes M y p (place p l) none
  | [], _, _, _, _, h0 => h0
  | t :: l, p, h, hok, hM, h0 => by
    have hg := tot_ge l (p + t.size + 1)
    have hg2 : tot p (t :: l) = tot (p + t.size + 1) l := rfl
    have ih := h.2.2.lexes (fun u hu => hok u (List.mem_cons_of_mem _ hu)) hM h0
    have hsp : Lexes M y (p + t.size) (place (p + t.size + 1) l) none := .blank _ _ _ (by omega) (by rw [h.2.1]; rfl) ih
    have hat := fun j hj => h.1 j hj
    show Lexes M y p (⟨t.kind, p, t.size⟩ :: place (p + t.size + 1) l) none
    rcases hok t (by simp) with ⟨e1, e2, e3, e4, e5⟩ | ⟨e1, e2, e5⟩ | ⟨e1, e2, e3, e4⟩ | ⟨e1, e2, e3⟩
    · rw [e1]
      have h00 := h.1 0 e2
      rw [Nat.add_zero, Nat.add_zero] at h00
      exact .word p t.size _ _ (by omega) (by rw [h00]; exact e4) ⟨by omega, fun j hj => by rw [h.1 j hj]; exact e5 j hj, fun _ => by rw [h.2.1]; rfl⟩ e3 hsp
    · rw [e1]
      have h00 := h.1 0 e2
      rw [Nat.add_zero, Nat.add_zero] at h00
      have e50 := e5 0 e2
      rw [Nat.add_zero] at e50
      exact .num p t.size _ _ (by omega) (by rw [h00]; exact e50) ⟨by omega, fun j hj => by rw [h.1 j hj]; exact e5 j hj, fun _ => by rw [h.2.1]; rfl⟩ (fun _ => by rw [h.2.1]; rfl) hsp
    · rw [e1]
      have h00 := h.1 0 (by omega)
      rw [Nat.add_zero, Nat.add_zero] at h00
      have h01 := h.1 1 (by omega)
      rw [e2] at hsp ⊢
      exact .same p _ _ (by omega) (by rw [h00]; exact e3) (by rw [h01]; exact e4) hsp
    · rw [e1]
      have h00 := h.1 0 (by omega)
      rw [Nat.add_zero, Nat.add_zero] at h00
      have h32 := h.2.1
      rw [e2] at hsp h32 ⊢
      exact .mark p _ _ (by omega) (by rw [h00]; exact e3) (fun hc => by rw [h32] at hc; omega) hsp
/-- The text of all of them, the end's too. -/
theorem Lay.all {y z : Nat → Int} {n : Nat} {l : List Tok} (h : Lay y z 0 (l ++ [⟨4, n, 0⟩])) (hok : ∀ t ∈ l, TokOk z t) : Lexes (tot 0 (l ++ [⟨4, n, 0⟩])) y 0 (place 0 l) none := by
  have e : tot 0 (l ++ [⟨4, n, 0⟩]) = tot 0 l + 1 := tot_snoc l 0 _
  have split : ∀ (l : List Tok) (p : Nat) (t : Tok), Lay y z p (l ++ [t]) → Lay y z p l ∧ y (tot p l + t.size) = 32 := by
    intro l
    induction l with
    | nil => intro p t h; exact ⟨trivial, h.2.1⟩
    | cons u l ih =>
      intro p t h
      obtain ⟨h1, h2⟩ := ih _ t h.2.2
      exact ⟨⟨h.1, h.2.1, h1⟩, h2⟩
  obtain ⟨h1, h2⟩ := split l 0 _ h
  rw [e]
  refine h1.lexes hok (by omega) (.blank _ _ _ (by omega) (by rw [show tot 0 l = tot 0 l + (⟨4, n, 0⟩ : Tok).size from rfl, h2]; rfl) .stop)
theorem Lexes.tot_le {n : Nat} {z : Nat → Int} {a : Nat} {l : List Tok} {r : Option Nat} (h : Lexes n z a l r) : ∀ p, tot p l + a ≤ p + n + l.length := by
  induction h with
  | stop => intro p; simp [tot]
  | blank a l r _ _ _ ih => intro p; have := ih p; omega
  | note a k l r _ _ _ _ ih => intro p; have := ih p; omega
  | word a k l r _ _ _ _ _ ih => intro p; have := ih (p + k + 1); simp only [tot, List.length_cons]; omega
  | long a k ha => intro p; simp [tot]; omega
  | num a k l r _ _ _ _ _ ih => intro p; have := ih (p + k + 1); simp only [tot, List.length_cons]; omega
  | ill a k ha => intro p; simp [tot]; omega
  | same a l r _ _ _ _ ih => intro p; have := ih (p + 2 + 1); simp only [tot, List.length_cons]; omega
  | mark a l r _ _ _ _ ih => intro p; have := ih (p + 1 + 1); simp only [tot, List.length_cons]; omega
  | wrong a ha => intro p; simp [tot]; omega

/-! ### Bytes behind bytes -/
def Tok.shift (d : Nat) (t : Tok) : Tok := ⟨t.kind, d + t.at_, t.size⟩
theorem IsRun.shift {p : Int → Bool} {m : Nat} {z y : Nat → Int} {d a k : Nat} (h : IsRun p m z a k) (he : ∀ j, j < m → y (d + j) = z j) : IsRun p (d + m) y (d + a) k := by
  have hf := h.fit
  refine ⟨by omega, fun j hj => ?_, fun hl => ?_⟩
  · rw [Nat.add_assoc, he _ (by omega)]; exact h.all j hj
  · rw [Nat.add_assoc, he _ (by omega)]; exact h.stop (by omega)
theorem Lexes.shift {m : Nat} {z y : Nat → Int} {d : Nat} (he : ∀ j, j < m → y (d + j) = z j) {a : Nat} {l : List Tok} {r : Option Nat} (h : Lexes m z a l r) : Lexes (d + m) y (d + a) (l.map (Tok.shift d)) (r.map (d + ·)) := by
  induction h with
  | stop => exact .stop
  | blank a l r ha hb _ ih => exact .blank _ _ _ (by omega) (by rw [he _ ha]; exact hb) ih
  | note a k l r ha hb hr _ ih => exact .note _ k _ _ (by omega) (by rw [he _ ha]; exact hb) (hr.shift he) (by rw [Nat.add_assoc]; exact ih)
  | word a k l r ha hb hr hk _ ih => exact .word _ k _ _ (by omega) (by rw [he _ ha]; exact hb) (hr.shift he) hk (by rw [Nat.add_assoc]; exact ih)
  | long a k ha hb hr hk => exact .long _ k (by omega) (by rw [he _ ha]; exact hb) (hr.shift he) hk
  | num a k l r ha hb hr hk _ ih => exact .num _ k _ _ (by omega) (by rw [he _ ha]; exact hb) (hr.shift he) (fun hl => by rw [Nat.add_assoc, he _ (by omega)]; exact hk (by omega)) (by rw [Nat.add_assoc]; exact ih)
  | ill a k ha hb hr hk hi =>
    have : Lexes (d + m) y (d + a) [] (some (d + a + k)) := .ill _ k (by omega) (by rw [he _ ha]; exact hb) (hr.shift he) (by omega) (by rw [Nat.add_assoc, he _ hk]; exact hi)
    rwa [Nat.add_assoc] at this
  | same a l r ha h0 h1 _ ih => exact .same _ _ _ (by omega) (by rw [he _ (by omega)]; exact h0) (by rw [Nat.add_assoc, he _ ha]; exact h1) ih
  | mark a l r ha h0 h1 _ ih => exact .mark _ _ _ (by omega) (by rw [he _ ha]; exact h0) (fun hc => h1 ⟨by rw [← he _ ha]; exact hc.1, by omega, by have := hc.2.2; rw [Nat.add_assoc, he _ (by omega)] at this; exact this⟩) ih
  | wrong a ha h1 h2 h3 h4 h5 => exact .wrong _ (by omega) (by rw [he _ ha]; exact h1) (by rw [he _ ha]; exact h2) (by rw [he _ ha]; exact h3) (by rw [he _ ha]; exact h4) (by rw [he _ ha]; exact h5)

/-- A line's end between. -/
theorem Lexes.lines {n : Nat} {z : Nat → Int} {l : List Tok} (h : Lexes n z 0 l none) {m : Nat} {x : Nat → Int} {l2 : List Tok} {r2 : Option Nat} (h2 : Lexes m x 0 l2 r2) {y : Nat → Int} (he : ∀ j, j < n → y j = z j) (h10 : y n = 10) (hx : ∀ j, j < m → y (n + 1 + j) = x j) :
    Lexes (n + 1 + m) y 0 (l ++ l2.map (Tok.shift (n + 1))) (r2.map (n + 1 + ·)) := by
  have hs := h2.shift (d := n + 1) hx
  have hn : Lexes (n + 1 + m) y n (l2.map (Tok.shift (n + 1))) (r2.map (n + 1 + ·)) := .blank _ _ _ (by omega) (by rw [h10]; rfl) hs
  refine h.join rfl (by omega) he (by rw [h10]; rfl) (by rw [h10]; decide) hn (fun a k h35 ha e hall => ?_)
  exact .note a k _ _ (by omega) h35 ⟨by omega, hall, fun _ => by rw [e, h10]; rfl⟩ (by rw [e]; exact hn)

theorem strCells_sub (z : Nat → Int) (a k : Nat) (hz : ∀ j, j < k → 0 ≤ z (a + j) ∧ z (a + j) ≤ 255) : Lib.strCells (sub z a k) = bytesV (fun j => z (a + j)) k := by
  unfold Lib.strCells sub strOfNums bytesV
  simp only [List.map_map]
  apply List.ext_getElem?
  intro j
  rcases Nat.lt_or_ge j k with h | h
  · have := hz j h
    simp [h]
    omega
  · simp [h]

theorem Lexes.wrong_le {n : Nat} {z : Nat → Int} {a : Nat} {l : List Tok} {r : Option Nat} (h : Lexes n z a l r) : ∀ p, r = some p → p ≤ n := by
  induction h with
  | stop => intro p h; cases h
  | blank _ _ _ _ _ _ ih => exact ih
  | note _ _ _ _ _ _ _ _ ih => exact ih
  | word _ _ _ _ _ _ _ _ _ ih => exact ih
  | long a k ha => intro p h; injection h with h; omega
  | num _ _ _ _ _ _ _ _ _ ih => exact ih
  | ill a k _ _ _ hk => intro p h; injection h with h; omega
  | same _ _ _ _ _ _ _ ih => exact ih
  | mark _ _ _ _ _ _ _ ih => exact ih
  | wrong a ha => intro p h; injection h with h; omega
theorem Lexes.at_le {m : Nat} {x : Nat → Int} {l : List Tok} {r : Option Nat} (h : Lexes m x 0 l r) (i : Nat) (t : Tok) (ht : (l ++ [⟨4, m, 0⟩])[i]? = some t) : t.at_ ≤ m := by
  rcases Nat.lt_or_ge i l.length with hl | hl
  · rw [List.getElem?_append_left hl] at ht
    have := (h.ends t (List.mem_of_getElem? ht)).2.2
    omega
  · rw [List.getElem?_append_right hl] at ht
    rcases hk : i - l.length with _ | k
    · rw [hk] at ht
      have e : (⟨4, m, 0⟩ : Tok) = t := by simpa using ht
      subst e
      exact Nat.le_refl _
    · rw [hk] at ht
      simp at ht
/-- The text of the first i tokens. -/
structure Txt (z : Nat → Int) (T : List Tok) (i N : Nat) (y : Nat → Int) : Prop where
  len : N = tot 0 (T.take i)
  lay : Lay y z 0 (T.take i)
  u8 : ∀ j, j < N → 0 ≤ y j ∧ y j ≤ 255
theorem Txt.snoc {z : Nat → Int} {T : List Tok} {i N : Nat} {y : Nat → Int} (h : Txt z T i N y) {t : Tok} (ht : T[i]? = some t) (hz : ∀ j, j < t.size → 0 ≤ z (t.at_ + j) ∧ z (t.at_ + j) ≤ 255) :
    Txt z T (i + 1) (N + t.size + 1) (Go.Proofs.Ytomnomljljkdfaa.more (cat N y (fun j => z (t.at_ + j))) (N + t.size) 32) := by
  have e : T.take (i + 1) = T.take i ++ [t] := by rw [List.take_add_one, ht]; rfl
  have hl := h.len
  refine ⟨by rw [e, tot_snoc, ← hl], ?_, fun j hj => ?_⟩
  · rw [e]
    refine (h.lay.congr (y' := Go.Proofs.Ytomnomljljkdfaa.more (cat N y (fun j => z (t.at_ + j))) (N + t.size) 32) (fun j hj => ?_)).snoc (fun j hj => ?_) ?_
    · rw [← hl] at hj
      unfold Go.Proofs.Ytomnomljljkdfaa.more cat
      rw [if_neg (by omega), if_pos hj]
    · rw [← hl]
      unfold Go.Proofs.Ytomnomljljkdfaa.more cat
      rw [if_neg (by omega), if_neg (by omega), show N + j - N = j from by omega]
    · rw [← hl]
      unfold Go.Proofs.Ytomnomljljkdfaa.more
      rw [if_pos rfl]
  · unfold Go.Proofs.Ytomnomljljkdfaa.more cat
    split
    · omega
    · split
      · exact h.u8 j (by omega)
      · exact hz _ (by omega)
/-- Two texts, a line's end between. -/
def lined (n : Nat) (z x : Nat → Int) : Nat → Int := cat (n + 1) (Go.Proofs.Ytomnomljljkdfaa.more z n 10) x
theorem lined_old {n : Nat} {z x : Nat → Int} {j : Nat} (h : j < n) : lined n z x j = z j := by
  unfold lined Go.Proofs.Ytomnomljljkdfaa.more cat
  rw [if_pos (by omega)]
  show (if j = n then 10 else z j) = z j
  rw [if_neg (by omega)]
theorem lined_end {n : Nat} {z x : Nat → Int} : lined n z x n = 10 := by
  unfold lined Go.Proofs.Ytomnomljljkdfaa.more cat
  rw [if_pos (by omega)]
  show (if n = n then 10 else z n) = 10
  rw [if_pos rfl]
theorem lined_new {n : Nat} {z x : Nat → Int} {j : Nat} : lined n z x (n + 1 + j) = x j := by
  unfold lined cat
  rw [if_neg (by omega), show n + 1 + j - (n + 1) = j from by omega]
theorem lined_u8 {n m : Nat} {z x : Nat → Int} (hz : ∀ j, j < n → 0 ≤ z j ∧ z j ≤ 255) (hx : ∀ j, j < m → 0 ≤ x j ∧ x j ≤ 255) (j : Nat) (hj : j < n + 1 + m) : 0 ≤ lined n z x j ∧ lined n z x j ≤ 255 := by
  rcases Nat.lt_or_ge j n with h | h
  · rw [lined_old h]; exact hz j h
  · rcases Nat.lt_or_ge j (n + 1) with h2 | h2
    · obtain rfl : j = n := by omega
      rw [lined_end]; omega
    · have : j = n + 1 + (j - (n + 1)) := by omega
      rw [this, lined_new]
      exact hx _ (by omega)
theorem sub_shift {n m : Nat} {z x : Nat → Int} {a k : Nat} : sub (lined n z x) (n + 1 + a) k = sub x a k := by
  unfold sub
  congr 1
  apply List.map_congr_left
  intro j hj
  rw [Nat.add_assoc, lined_new]
end Go.Proofs.Ytomnomljljkdfaa
