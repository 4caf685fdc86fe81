/- The profile and the document's profile side by side. Conditions: none. -/
import Derived.Test.YtemdojckeghbjaaRef2
namespace Go.Proofs.Ytemdojckeghbjaa
open Go.RowKit
set_option linter.unusedVariables false

/-- What the table holds is what the calls tell. -/
structure Rel (n : Nat) (z : Nat → Int) (st : Nat → Nat → Int) (L : List CallD) : Prop where
  par : ∀ i, i < n → st i 0 = min (max (z i) 0) 8
  calls : ∀ i, i < n → st i 1 = min (cnt (i : Int) L : Int) 1000
  vals : ∀ i, i < n → ∀ k : Nat, (k : Int) < st i 0 → st i (2 + k * 2) = runV (FL (i : Int) k L) ∧ st i (2 + k * 2 + 1) = min (runN (FL (i : Int) k L) : Int) 1000
theorem Rel.start (n : Nat) (z : Nat → Int) : Rel n z (init z) [] := ⟨fun i _ => rfl, fun i _ => rfl, fun i _ k _ => ⟨by unfold init; rw [if_neg (by omega)]; rfl, by unfold init; rw [if_neg (by omega)]; rfl⟩⟩

theorem Rel.step {n : Nat} {z : Nat → Int} {st : Nat → Nat → Int} {L : List CallD} (h : Rel n z st L) (i : Nat) (hi : i < n) (x : Nat → Int) (m : Nat) (hm : (m : Int) = st i 0) (b c : Nat) :
    Rel n z (after st i x m) (L ++ [⟨(i : Int), b, m, c, x⟩]) := by
  refine ⟨fun j hj => ?_, fun j hj => ?_, fun j hj k hk => ?_⟩
  · by_cases e : j = i
    · subst e; rw [after_par]; exact h.par j hj
    · rw [after_other _ _ _ _ e]; exact h.par j hj
  · rw [cnt_snoc]
    by_cases e : j = i
    · subst e
      rw [after_calls, h.calls j hj, if_pos rfl]
      push_cast
      omega
    · rw [after_other _ _ _ _ e, h.calls j hj, if_neg (by show ¬ (i : Int) = (j : Int); omega)]
      simp
  · rw [FL_snoc]
    by_cases e : j = i
    · subst e
      rw [after_par] at hk
      have hkm : k < m := by omega
      obtain ⟨h1, h2⟩ := h.vals j hj k hk
      rw [if_pos rfl, after_val _ _ _ _ hkm, after_tim _ _ _ _ hkm, h1, h2]
      refine ⟨rfl, ?_⟩
      show _ = min ((1 + tw (x k) (FL (j : Int) k L) : Nat) : Int) 1000
      cases FL (j : Int) k L with
      | nil =>
        show (if (0 : Int) = x k then min (min ((0 : Nat) : Int) 1000 + 1) 1000 else 1) = min ((1 + 0 : Nat) : Int) 1000
        split <;> omega
      | cons u r =>
        rw [tw_cons]
        show (if u = x k then min (min ((1 + tw u r : Nat) : Int) 1000 + 1) 1000 else 1) = _
        by_cases hu : u = x k
        · subst hu; rw [if_pos rfl, if_pos rfl]; omega
        · rw [if_neg hu, if_neg hu]; omega
    · rw [after_other _ _ _ _ e] at hk
      rw [after_other _ _ _ _ e, after_other _ _ _ _ e, if_neg (by show ¬ (i : Int) = (j : Int); omega)]
      exact h.vals j hj k hk

/-- Both profiles in one world. -/
structure PQ (w : World) (gp gl cap gq : Nat) (A : Option Addr) (n pc : Nat) (z : Nat → Int) (v : Value) (st : Nat → Nat → Int) (L : List CallD) : Prop where
  p : IsP w gp gl n cap st
  q : IsQ w gq A n pc z v L
  rel : Rel n z st L
  ms : ∀ e ∈ L, (e.m : Int) = thereV n z e.fn
  pl : gp ≠ gl
  par : 0 < n → ∀ b off, A = some ⟨b, off, none⟩ → b ≠ gp ∧ b ≠ gl

section
variable {w w' : World} {gp gl cap gq n pc : Nat} {A : Option Addr} {z : Nat → Int} {v : Value} {st : Nat → Nat → Int} {L : List CallD}
/-- Is block g one of theirs? -/
def Theirs (gp gl gq : Nat) (A : Option Addr) (n : Nat) (v : Value) (L : List CallD) (g : Nat) : Prop :=
  g = gp ∨ (0 < n ∧ g = gl) ∨ g = gq ∨ (0 < n ∧ ∃ b off, A = some ⟨b, off, none⟩ ∧ g = b) ∨ v.ownBlock = some g ∨ ∃ e ∈ L, g = e.b
theorem PQ.kept (h : PQ w gp gl cap gq A n pc z v st L) (hsz : w.heap.size ≤ w'.heap.size) (hk : ∀ g, g < w.heap.size → Theirs gp gl gq A n v L g → w'.heap[g]? = w.heap[g]?) : PQ w' gp gl cap gq A n pc z v st L := by
  refine ⟨?_, ?_, h.rel, h.ms, h.pl, h.par⟩
  · refine ⟨(hk gp h.p.own.lt (.inl rfl)).trans h.p.own, fun hn => ?_, h.p.fit, h.p.good⟩
    obtain ⟨cur, hb, hT⟩ := h.p.rows hn
    exact ⟨cur, (hk gl (Blk.lt hb) (.inr (.inl ⟨hn, rfl⟩))).trans hb, hT⟩
  · refine h.q.kept hsz fun g hg e => hk g hg ?_
    rcases e with e | e | e | e
    · exact .inr (.inr (.inl e))
    · exact .inr (.inr (.inr (.inl e)))
    · exact .inr (.inr (.inr (.inr (.inl e))))
    · exact .inr (.inr (.inr (.inr (.inr e))))
theorem PQ.below (h : PQ w gp gl cap gq A n pc z v st L) {B : Nat} (hb : Below B w w') (hB : w.heap.size ≤ B) : PQ w' gp gl cap gq A n pc z v st L := h.kept hb.size fun g hg _ => hb.block g (by omega)
theorem PQ.drewN (h : PQ w gp gl cap gq A n pc z v st L) (m : Nat) : PQ (w.drewN m) gp gl cap gq A n pc z v st L := h.kept (Nat.le_refl _) fun g hg _ => rfl
theorem PQ.alloc (h : PQ w gp gl cap gq A n pc z v st L) (o : Obj) : PQ (w.alloc o) gp gl cap gq A n pc z v st L := h.kept (by simp) fun g hg _ => Below.heap_alloc w o g hg

theorem PQ.setCell (h : PQ w gp gl cap gq A n pc z v st L) (g i : Nat) (u : Value) (hg : ¬ Theirs gp gl gq A n v L g) : PQ (w.setCell ⟨g, i, none⟩ u) gp gl cap gq A n pc z v st L :=
  h.kept (by simp) fun k hk e => Below.heap_setCell w _ u k (fun e2 => hg (by rw [← show k = g from e2]; exact e))
theorem callsV_eq (h : PQ w gp gl cap gq A n pc z v st L) (fn : Int) : callsV n st fn = min (cnt fn L : Int) 1000 := by
  unfold callsV
  by_cases hf : fn < 0 ∨ (n : Int) ≤ fn
  · rw [if_pos hf]
    have : cnt fn L = 0 := by
      unfold cnt
      rw [List.length_eq_zero_iff, List.filter_eq_nil_iff]
      intro e he hc
      have hc : e.fn = fn := by simpa using hc
      have := h.ms e he
      unfold thereV at this
      rw [hc, if_pos hf] at this
      omega
    rw [this]; rfl
  · rw [if_neg hf, h.rel.calls fn.toNat (by omega)]
    rw [show ((fn.toNat : Nat) : Int) = fn from by omega]
theorem there_eq (h : PQ w gp gl cap gq A n pc z v st L) (fn : Int) (hf : ¬ (fn < 0 ∨ (n : Int) ≤ fn)) : thereV n z fn = st fn.toNat 0 := by
  unfold thereV; rw [if_neg hf, h.rel.par fn.toNat (by omega)]
/-- The document's Value answers what the profile's does. -/
theorem rvalue_any (h : PQ w gp gl cap gq A n pc z v st L) (fn k : Int) (hL : L.length ≤ 100000) :
    Calls Try.prog 15 #[.pointer (some ⟨gq, 0, none⟩), .int .i64 fn, .int .i64 k] w fun e w' => e = .returned (.tuple #[.int .i64 (valV n st fn k), .int .i64 (valT n st fn k)]) ∧ Below w.heap.size w w' := by
  have hn := h.p.fit
  by_cases hf : fn < 0 ∨ (n : Int) ≤ fn
  · rw [show valV n st fn k = 0 from if_pos hf, show valT n st fn k = 0 from if_pos hf]
    refine (rvalue_out gq n pc A z v L fn k w h.q hn ?_).mono fun e w' ⟨h1, h2⟩ => ⟨h1, by rw [h2]; exact Below.refl _ _⟩
    unfold thereV; rw [if_pos hf]; omega
  · have ht := there_eq h fn hf
    unfold valV valT
    rw [if_neg hf, if_neg hf]
    by_cases hk : k < 0 ∨ st fn.toNat 0 ≤ k
    · rw [if_pos hk, if_pos hk]
      exact (rvalue_out gq n pc A z v L fn k w h.q hn (by rw [ht]; exact hk)).mono fun e w' ⟨h1, h2⟩ => ⟨h1, by rw [h2]; exact Below.refl _ _⟩
    · rw [if_neg hk, if_neg hk]
      obtain ⟨h1, h2⟩ := h.rel.vals fn.toNat (by omega) k.toNat (by omega)
      rw [h1, h2, show ((fn.toNat : Nat) : Int) = fn from by omega]
      have := rvalue_in gq n pc A z v L fn k.toNat w h.q hn (by rw [ht]; omega) h.ms hL
      rw [show ((k.toNat : Nat) : Int) = k from by omega] at this
      exact this
end


/-- What the document's See makes, whatever it is handed. -/
structure RSee (w w' : World) (gq : Nat) (A : Option Addr) (n pc : Nat) (z : Nat → Int) (v : Value) (st' : Nat → Nat → Int) (L : List CallD) (v' : Value) (L' : List CallD) : Prop where
  q : IsQ w' gq A n pc z v' L'
  rel : Rel n z st' L'
  ms : ∀ e ∈ L', (e.m : Int) = thereV n z e.fn
  len : L'.length ≤ L.length + 1
  size : w.heap.size ≤ w'.heap.size
  block : ∀ g, g < w.heap.size → g ≠ gq → v.ownBlock ≠ some g → w'.heap[g]? = w.heap[g]?
  os : w'.os = w.os
  tape : w'.tape = w.tape
  output : w'.output = w.output
  new : ∀ e ∈ L', e ∈ L ∨ w.heap.size ≤ e.b
  own : ∀ g, v'.ownBlock = some g → v.ownBlock = some g ∨ w.heap.size ≤ g
def RSees (w w' : World) (gq : Nat) (A : Option Addr) (n pc : Nat) (z : Nat → Int) (v : Value) (st' : Nat → Nat → Int) (L : List CallD) : Prop := ∃ v' L', RSee w w' gq A n pc z v st' L v' L'

section
variable {w w1 w2 : World} {gp gl cap gq n pc : Nat} {A : Option Addr} {z : Nat → Int} {v : Value} {st : Nat → Nat → Int} {L : List CallD}
theorem rsee_any (h : PQ w gp gl cap gq A n pc z v st L) (fn : Int) (ga q c : Nat) (x : Nat → Int) (ha : Row w (some ⟨ga, 0, none⟩) q (fun j => .int .i64 (x j))) (hL : L.length ≤ 100000) :
    Calls Try.prog 10 #[.pointer (some ⟨gq, 0, none⟩), .int .i64 fn, .slice (some ⟨ga, 0, none⟩) q c] w fun e w' => e = .returned (.int .i64 (seeE n st fn q)) ∧ RSees w w' gq A n pc z v (seeS n st fn x q) L := by
  have hn := h.p.fit
  have same : RSees w w gq A n pc z v st L := ⟨v, L, h.q, h.rel, h.ms, by omega, Nat.le_refl _, fun _ _ _ _ => rfl, rfl, rfl, rfl, fun e he => .inl he, fun g hg => .inl hg⟩
  unfold seeE seeS
  by_cases hf : fn < 0 ∨ (n : Int) ≤ fn
  · rw [if_pos hf, if_pos hf]
    exact (rsee_none gq n pc A z v L fn _ q c w h.q hn hf).mono fun e w' ⟨h1, h2⟩ => ⟨h1, by rw [h2]; exact same⟩
  · rw [if_neg hf, if_neg hf]
    have ht := there_eq h fn hf
    by_cases hq : (q : Int) = st fn.toNat 0
    · rw [if_pos hq, if_pos hq]
      refine (rsee_ok gq n pc A z v L fn ga q c x w h.q hn hf (by rw [ht]; exact hq) ha hL).mono ?_
      rintro e w' ⟨h1, v', b, c', hb1, hb2, hQ, hs, hblk, ho, hta, hou, hown⟩
      refine ⟨h1, v', _, hQ, ?_, ?_, ?_, hs, hblk, ho, hta, hou, ?_, hown⟩
      · have := h.rel.step fn.toNat (by omega) x q hq b c'
        rwa [show ((fn.toNat : Nat) : Int) = fn from by omega] at this
      · intro e he
        rcases List.mem_append.1 he with he | he
        · exact h.ms e he
        · obtain rfl := List.mem_singleton.1 he
          show (q : Int) = _
          rw [ht]; exact hq
      · rw [List.length_append]; exact Nat.le_refl _
      · intro e he
        rcases List.mem_append.1 he with he | he
        · exact .inl he
        · obtain rfl := List.mem_singleton.1 he
          exact .inr hb1
    · rw [if_neg hq, if_neg hq]
      exact (rsee_arg gq n pc A z v L fn _ q c w h.q hn hf (by rw [ht]; exact hq)).mono fun e w' ⟨h1, h2⟩ => ⟨h1, by rw [h2]; exact same⟩

theorem RSee.p {st' : Nat → Nat → Int} {v' : Value} {L' : List CallD} (r : RSee w w1 gq A n pc z v st' L v' L') (h : PQ w gp gl cap gq A n pc z v st L) : IsP w1 gp gl n cap st := by
  refine ⟨(r.block gp h.p.own.lt (Blk.ne_ h.p.own h.q.own (by decide)) (own_ne h.q.rows h.p.own (by decide))).trans h.p.own, fun hn => ?_, h.p.fit, h.p.good⟩
  obtain ⟨cur, hb, hT⟩ := h.p.rows hn
  exact ⟨cur, (r.block gl hb.lt (Blk.ne_ hb h.q.own (by decide)) (own_ne h.q.rows hb (by decide))).trans hb, hT⟩

theorem RSee.both {st' : Nat → Nat → Int} {v' : Value} {L' : List CallD} (r : RSee w w1 gq A n pc z v st' L v' L') (h : PQ w gp gl cap gq A n pc z v st L) (hp : IsP w2 gp gl n cap st') (hu : UpdN n gl w1 w2) : PQ w2 gp gl cap gq A n pc z v' st' L' := by
  have h1 := r.p h
  refine ⟨hp, r.q.kept hu.size fun g hg e => hu.block hg fun hn => ?_, r.rel, r.ms, h.pl, h.par⟩
  obtain ⟨cur, hb, _⟩ := h1.rows hn
  rcases e with rfl | ⟨_, b, off, e1, rfl⟩ | e | ⟨e, he, rfl⟩
  · exact Blk.ne_ r.q.own hb (by decide)
  · exact (h.par hn g off e1).2
  · rintro rfl; exact own_ne r.q.rows hb (by decide) e
  · obtain ⟨cs, hc, _⟩ := r.q.args e he
    exact Blk.ne_ hc hb (by decide)
end

end Go.Proofs.Ytemdojckeghbjaa
