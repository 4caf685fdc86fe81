/- Contracts of the document's profile: there, See, Calls, Value, over the list of its calls. Conditions: the blocks that hold it are known. -/
import Derived.Test.YtemdojckeghbjaaCopy
import Derived.Deep.RegionLaw
namespace Go.Proofs.Ytemdojckeghbjaa
open Go.RowKit
set_option linter.unusedVariables false
attribute [local go_sem] maxI minI

/-- A call: of which function, where its arguments lie, which they are. -/
structure CallD where
  fn : Int
  b : Nat
  m : Nat
  c : Nat
  x : Nat → Int
def flat1 (e : CallD) : List Value := [.int .i64 e.fn, .slice (some ⟨e.b, 0, none⟩) e.m e.c]
def flat : List CallD → List Value
  | [] => []
  | e :: l => flat1 e ++ flat l
theorem flat_append (l : List CallD) (e : CallD) : flat (l ++ [e]) = flat l ++ flat1 e := by
  induction l with
  | nil => simp [flat]
  | cons a l ih => simp [flat, ih, List.append_assoc]
theorem flat_len (l : List CallD) : (flat l).length = l.length * 2 := by
  induction l with
  | nil => rfl
  | cons a l ih => show (flat1 a ++ flat l).length = _; rw [List.length_append, ih]; simp [flat1]; omega
theorem flat_fn (l : List CallD) (i : Nat) (h : i < l.length) : (flat l)[i * 2]? = some (.int .i64 (l[i]).fn) := by
  induction l generalizing i with
  | nil => simp at h
  | cons a l ih =>
    cases i with
    | zero => rfl
    | succ i =>
      show (flat1 a ++ flat l)[(i + 1) * 2]? = _
      rw [List.getElem?_append_right (by simp [flat1]; omega), show (i + 1) * 2 - (flat1 a).length = i * 2 from by simp [flat1]; omega]
      simpa using ih i (by simpa using h)
theorem flat_args (l : List CallD) (i : Nat) (h : i < l.length) : (flat l)[i * 2 + 1]? = some (.slice (some ⟨(l[i]).b, 0, none⟩) (l[i]).m (l[i]).c) := by
  induction l generalizing i with
  | nil => simp at h
  | cons a l ih =>
    cases i with
    | zero => rfl
    | succ i =>
      show (flat1 a ++ flat l)[(i + 1) * 2 + 1]? = _
      rw [List.getElem?_append_right (by simp [flat1]; omega), show (i + 1) * 2 + 1 - (flat1 a).length = i * 2 + 1 from by simp [flat1]; omega]
      simpa using ih i (by simpa using h)

/-- The document's profile: its own block, its parameters, its calls, their arguments. -/
structure IsQ (w : World) (gq : Nat) (A : Option Addr) (n pc : Nat) (z : Nat → Int) (v : Value) (L : List CallD) : Prop where
  own : Blk w gq 30 #[.slice A n pc, v]
  par : Row w A n (fun i => .int .i64 (z i))
  rows : w.ownsRow 0 53 2 v L.length (flat L)
  args : ∀ e ∈ L, ∃ cs, Blk w e.b 2 cs ∧ ∀ j, j < e.m → cs[j]? = some (.int .i64 (e.x j))
  apart : 0 < n → ∀ b off, A = some ⟨b, off, none⟩ → b ≠ gq ∧ v.ownBlock ≠ some b

section
variable {w w' : World} {gq n pc : Nat} {A : Option Addr} {z : Nat → Int} {v : Value} {L : List CallD}
/-- A profile of the document stays while its blocks do. -/
theorem IsQ.kept (h : IsQ w gq A n pc z v L) (hsz : w.heap.size ≤ w'.heap.size) (hk : ∀ g, g < w.heap.size → (g = gq ∨ (0 < n ∧ ∃ b off, A = some ⟨b, off, none⟩ ∧ g = b) ∨ v.ownBlock = some g ∨ ∃ e ∈ L, g = e.b) → w'.heap[g]? = w.heap[g]?) : IsQ w' gq A n pc z v L := by
  refine ⟨(hk gq h.own.lt (.inl rfl)).trans h.own, ?_, ?_, ?_, h.apart⟩
  · intro i hi
    obtain ⟨b, off, ha, hc⟩ := h.par i hi
    have hb := World.block_lt_of_cell? _ _ hc
    exact ⟨b, off, ha, (World.cell?_of_block (w := w) (a := ⟨b, off + i, none⟩) (hk b hb (.inr (.inl ⟨by omega, b, off, ha, rfl⟩)))).trans hc⟩
  · refine ⟨h.rows.1, ?_⟩
    rcases h.rows.2 with h1 | ⟨g, cap, cur, hv, hg, hh, hr⟩
    · exact .inl h1
    · refine .inr ⟨g, cap, cur, hv, hg, ?_, hr⟩
      rw [hk g (lt_of_block hh) (.inr (.inr (.inl (by rw [hv]; rfl))))]
      exact hh
  · intro e he
    obtain ⟨cs, hb, hc⟩ := h.args e he
    exact ⟨cs, (hk e.b hb.lt (.inr (.inr (.inr ⟨e, he, rfl⟩)))).trans hb, hc⟩
theorem IsQ.below (h : IsQ w gq A n pc z v L) {B : Nat} (hb : Below B w w') (hB : w.heap.size ≤ B) : IsQ w' gq A n pc z v L := h.kept hb.size fun g hg _ => hb.block g (by omega)
theorem IsQ.drewN (h : IsQ w gq A n pc z v L) (m : Nat) : IsQ (w.drewN m) gq A n pc z v L := h.kept (Nat.le_refl _) fun g hg _ => rfl
theorem IsQ.drew (h : IsQ w gq A n pc z v L) : IsQ w.drew gq A n pc z v L := h.kept (Nat.le_refl _) fun g hg _ => rfl
theorem IsQ.alloc (h : IsQ w gq A n pc z v L) (o : Obj) : IsQ (w.alloc o) gq A n pc z v L := h.kept (by simp) fun g hg _ => Below.heap_alloc w o g hg
end

/-- How many parameters a function has; -1: there is none. -/
def thereV (n : Nat) (z : Nat → Int) (fn : Int) : Int := if fn < 0 ∨ (n : Int) ≤ fn then -1 else min (max (z fn.toNat) 0) 8

theorem there_any (gq n pc : Nat) (A : Option Addr) (z : Nat → Int) (v : Value) (L : List CallD) (fn : Int) (w : World) (h : IsQ w gq A n pc z v L) (hn : n ≤ 1000000) :
    Calls Try.prog 16 #[.pointer (some ⟨gq, 0, none⟩), .int .i64 fn] w fun e w' => e = .returned (.int .i64 (thereV n z fn)) ∧ w' = w := by
  have c0 : w.cell? ⟨gq, 0, none⟩ = some (.slice A n pc) := h.own.cell 0
  have hp := hid h.par
  unfold thereV
  clear h
  by_cases hf : fn < 0 ∨ (n : Int) ≤ fn
  · rw [if_pos hf]
    rcases hf with hf | hf
    · go_enter Try.func16, Try.ntmps16
      go_wp2
      go_ret
      exact ⟨rfl, rfl⟩
    · have hf0 : 0 ≤ fn := by omega
      go_enter Try.func16, Try.ntmps16
      go_wp2
      go_ret
      exact ⟨rfl, rfl⟩
  · rw [if_neg hf]
    obtain ⟨f, rfl⟩ : ∃ f : Nat, fn = f := ⟨fn.toNat, by omega⟩
    have hfn : f < n := by omega
    clear hf
    obtain ⟨b, off, rfl, hc⟩ := hp.out f hfn
    rw [Int.toNat_natCast]
    go_enter Try.func16, Try.ntmps16
    go_wp2
    go_ret
    exact ⟨rfl, rfl⟩


theorem rsee_none (gq n pc : Nat) (A : Option Addr) (z : Nat → Int) (v : Value) (L : List CallD) (fn : Int) (a : Option Addr) (q c : Nat) (w : World) (h : IsQ w gq A n pc z v L) (hn : n ≤ 1000000) (hf : fn < 0 ∨ (n : Int) ≤ fn) :
    Calls Try.prog 10 #[.pointer (some ⟨gq, 0, none⟩), .int .i64 fn, .slice a q c] w fun e w' => e = .returned (.int .i64 11) ∧ w' = w := by
  have hv : Hid (thereV n z fn = -1) := if_pos hf
  clear hf
  go_enter Try.func10, Try.ntmps10
  go_wp2_with fail
  refine (there_any gq n pc A z v L fn _ h hn).mono ?_
  rintro e w' ⟨rfl, rfl⟩
  rw [hv.out]
  go_wp2_with fail
  go_ret
  exact ⟨rfl, rfl⟩

theorem rsee_arg (gq n pc : Nat) (A : Option Addr) (z : Nat → Int) (v : Value) (L : List CallD) (fn : Int) (a : Option Addr) (q c : Nat) (w : World) (h : IsQ w gq A n pc z v L) (hn : n ≤ 1000000) (hf : ¬ (fn < 0 ∨ (n : Int) ≤ fn)) (hq : (q : Int) ≠ thereV n z fn) :
    Calls Try.prog 10 #[.pointer (some ⟨gq, 0, none⟩), .int .i64 fn, .slice a q c] w fun e w' => e = .returned (.int .i64 1) ∧ w' = w := by
  obtain ⟨p, hp⟩ : ∃ p, thereV n z fn = p := ⟨_, rfl⟩
  rw [hp] at hq
  have hp0 : 0 ≤ p := by rw [← hp]; unfold thereV; rw [if_neg hf]; omega
  have HP := hid hp
  clear hp hf
  have hb : ((q : Int) != p) = true := by simp [hq]
  have hb2 : ((q : Int) == p) = false := by simp [hq]
  go_enter Try.func10, Try.ntmps10
  go_wp2_with fail
  refine (there_any gq n pc A z v L fn _ h hn).mono ?_
  rintro e w' ⟨rfl, rfl⟩
  rw [HP.out]
  go_wp2_with fail
  go_ret
  exact ⟨rfl, rfl⟩

theorem own_empty (w : World) (e : TypeId) (size : Nat) : (w.alloc (.cells #[] e)).ownsRow w.heap.size e size (.slice (some ⟨w.heap.size, 0, none⟩) 0 0) 0 [] :=
  World.ownsRow_made w #[] 0 (Nat.le_refl _) (Nat.zero_le _) (by simp)
theorem own_form {w : World} {base : Nat} {e : TypeId} {size n : Nat} {v : Value} {xs : List Value} (h : w.ownsRow base e size v n xs) (hne : v ≠ .slice none 0 0) :
    ∃ g cap cs, v = .slice (some ⟨g, 0, none⟩) n cap ∧ base ≤ g ∧ Blk w g e cs ∧ cs.size = cap * size ∧ n ≤ cap ∧ ∀ j, j < n * size → cs[j]? = xs[j]? := by
  rcases h.2 with ⟨h1, _⟩ | ⟨g, cap, cur, hv, hg, hh, hn, hc, hs, ht⟩
  · exact absurd h1 hne
  · refine ⟨g, cap, cur, hv, hg, hh, hs, hn, fun j hj => ?_⟩
    rw [← ht, List.getElem?_take, if_pos hj, Array.getElem?_toList]
theorem form_ne {v v' : Value} {k : Nat} (h : v = v' ∨ ∃ g cap, v' = .slice (some ⟨g, 0, none⟩) k cap) (hne : v ≠ .slice none 0 0) : v' ≠ .slice none 0 0 := by
  rcases h with rfl | ⟨g, cap, rfl⟩
  · exact hne
  · simp
theorem info2' : (Try.prog.info? 2).map (fun i => (i.zero, i.size, i.bytes)) = some (some (.int .i64 0), 1, 8) := by kernel_rfl
theorem info53 : ∃ i z, Try.prog.info? 53 = some i ∧ i.zero = some z ∧ i.size = 2 ∧ i.bytes = 32 ∧ z.cells.size = 2 := by
  have h : (Try.prog.info? 53).map (fun i => (i.zero.map (·.cells.size), i.size, i.bytes)) = some (some 2, 2, 32) := by kernel_rfl
  cases hi : Try.prog.info? 53 with
  | none => rw [hi] at h; cases h
  | some i =>
    rw [hi] at h
    simp only [Option.map_some, Option.some.injEq, Prod.mk.injEq] at h
    obtain ⟨h1, h2, h3⟩ := h
    cases hz : i.zero with
    | none => rw [hz] at h1; cases h1
    | some z =>
      rw [hz] at h1
      exact ⟨i, z, rfl, hz, h2, h3, by simpa using h1⟩

/-- What a call that is taken makes of the document's profile. -/
def RPost (w : World) (gq : Nat) (A : Option Addr) (n pc : Nat) (z : Nat → Int) (v : Value) (L : List CallD) (fn : Int) (q : Nat) (x : Nat → Int) (w' : World) : Prop :=
  ∃ v' b c', w.heap.size ≤ b ∧ b < w'.heap.size ∧ IsQ w' gq A n pc z v' (L ++ [⟨fn, b, q, c', x⟩]) ∧
      w.heap.size ≤ w'.heap.size ∧ (∀ g, g < w.heap.size → g ≠ gq → v.ownBlock ≠ some g → w'.heap[g]? = w.heap[g]?) ∧ w'.os = w.os ∧ w'.tape = w.tape ∧ w'.output = w.output ∧ (∀ g, v'.ownBlock = some g → v.ownBlock = some g ∨ w.heap.size ≤ g)

theorem rsee_final {gq n pc : Nat} {A : Option Addr} {z : Nat → Int} {v : Value} {L : List CallD} {fn : Int} {q cap1 g1 g2 cap2 : Nat} {x : Nat → Int} {w w1 w2 : World} {o : Obj} {cs1 : Array Value}
    (h : IsQ w gq A n pc z v L) (hq1 : IsQ w1 gq A n pc z v L) (hg1 : (w.alloc (Obj.cells #[] 2)).grownBy w1 (some w.heap.size)) (hg1b : w.heap.size ≤ g1) (hB1 : Blk w1 g1 2 cs1)
    (hcs1 : ∀ j, j < (0 + q) * 1 → cs1[j]? = ([] ++ vals x q)[j]?) (hg2 : (w1.alloc o).grownBy w2 v.ownBlock) (hown2 : w2.ownsRow 0 53 2 (.slice (some ⟨g2, 0, none⟩) (L.length + 1) cap2) (L.length + 1) (flat L ++ flat1 ⟨fn, g1, q, cap1, x⟩))
    (hB2 : Blk w2 gq 30 #[.slice A n pc, v]) (hat2 : v.ownBlock = some g2 ∨ g2 = (w1.alloc o).heap.size) :
    RPost w gq A n pc z v L fn q x (w2.setCell ⟨gq, 1, none⟩ (.slice (some ⟨g2, 0, none⟩) (L.length + 1) cap2)) := by
  have hs1 : w.heap.size + 1 ≤ w1.heap.size := by simpa using hg1.size
  have hs2 : w1.heap.size + 1 ≤ w2.heap.size := by simpa using hg2.size
  have hgq := h.own.lt
  have old : ∀ g, g < w1.heap.size → g ≠ gq → v.ownBlock ≠ some g → (w2.setCell ⟨gq, 1, none⟩ (.slice (some ⟨g2, 0, none⟩) (L.length + 1) cap2)).heap[g]? = w1.heap[g]? := fun g hg h1 h2 => by
    rw [Below.heap_setCell _ _ _ _ h1, hg2.block g (by simp; omega) (fun e => h2 e.symm), Below.heap_alloc w1 o g hg]
  have ha : ∀ g, v.ownBlock = some g → g < w.heap.size := fun g hg => (h.rows.lt g hg).2
  refine ⟨.slice (some ⟨g2, 0, none⟩) (L.length + 1) cap2, g1, cap1, hg1b, ?_, ⟨?_, ?_, ?_, ?_, ?_⟩, ?_, ?_, ?_, ?_, ?_, ?_⟩
  · have := hB1.lt
    simp; omega
  · have := hB2.set 1 (.slice (some ⟨g2, 0, none⟩) (L.length + 1) cap2)
    simpa using this
  · intro i hi
    obtain ⟨b, off, e, hc⟩ := hq1.par i hi
    have hb := World.block_lt_of_cell? _ _ hc
    obtain ⟨n1, n2⟩ := h.apart (by omega) b off e
    exact ⟨b, off, e, (World.cell?_of_block (w := w1) (a := ⟨b, off + i, none⟩) (old b hb n1 n2)).trans hc⟩
  · rw [List.length_append, flat_append]
    exact ownsRow_setCell_other hown2 (own_ne hown2 hB2 (by decide)) _
  · intro e he
    rcases List.mem_append.1 he with he | he
    · obtain ⟨cs, hb, hc⟩ := hq1.args e he
      exact ⟨cs, (old e.b hb.lt (Blk.ne_ hb hq1.own (by decide)) (own_ne hq1.rows hb (by decide))).trans hb, hc⟩
    · obtain rfl := List.mem_singleton.1 he
      refine ⟨cs1, (old g1 hB1.lt (Blk.ne_ hB1 hq1.own (by decide)) (own_ne hq1.rows hB1 (by decide))).trans hB1, fun j hj => ?_⟩
      rw [hcs1 j (by simpa using hj)]
      exact vals_get x q j hj
  · intro hn b off e
    obtain ⟨n1, n2⟩ := h.apart hn b off e
    refine ⟨n1, fun e2 => ?_⟩
    have e3 : g2 = b := by simpa [Value.ownBlock] using e2
    subst e3
    obtain ⟨b', off', e', hc⟩ := h.par 0 hn
    rw [e] at e'
    injection e' with e'
    injection e' with e1 _
    subst e1
    have hb := World.block_lt_of_cell? _ _ hc
    rcases hat2 with h1 | h1
    · exact n2 h1
    · rw [h1] at hb; simp at hb; omega
  · simp; omega
  · intro g hg h1 h2
    rw [old g (by omega) h1 h2, hg1.block g (by simp; omega) (by intro e; injection e with e; omega), Below.heap_alloc w _ g hg]
  · show w2.os = _; rw [hg2.os]; show w1.os = _; rw [hg1.os]; rfl
  · show w2.tape = _; rw [hg2.tape]; show w1.tape = _; rw [hg1.tape]; rfl
  · show w2.output = _; rw [hg2.output]; show w1.output = _; rw [hg1.output]; rfl
  · intro g hg
    have e3 : g2 = g := by simpa [Value.ownBlock] using hg
    subst e3
    rcases hat2 with h1 | h1
    · exact .inl h1
    · right; rw [h1]; simp; omega

set_option maxRecDepth 100000 in
set_option maxHeartbeats 4000000 in
theorem rsee_ok (gq n pc : Nat) (A : Option Addr) (z : Nat → Int) (v : Value) (L : List CallD) (fn : Int) (ga q c : Nat) (x : Nat → Int) (w : World) (h : IsQ w gq A n pc z v L) (hn : n ≤ 1000000) (hf : ¬ (fn < 0 ∨ (n : Int) ≤ fn)) (hq : (q : Int) = thereV n z fn)
    (ha : Row w (some ⟨ga, 0, none⟩) q (fun j => .int .i64 (x j))) (hL : L.length ≤ 100000) :
    Calls Try.prog 10 #[.pointer (some ⟨gq, 0, none⟩), .int .i64 fn, .slice (some ⟨ga, 0, none⟩) q c] w fun e w' => e = .returned (.int .i64 0) ∧ RPost w gq A n pc z v L fn q x w' := by
  have hq8 : q ≤ 8 := by
    unfold thereV at hq; rw [if_neg hf] at hq; omega
  have HQ := hid hq
  have HA := hid ha
  have c1 : w.cell? ⟨gq, 1, none⟩ = some v := h.own.cell 1
  have f1 := h.own.fz 1
  have hu53 := Try.underlying53
  have hpos : 0 ≤ thereV n z fn := by rw [← hq]; omega
  obtain ⟨i2, hi2, hz20, hz21, hz22⟩ := info_parts info2'
  obtain ⟨i53, z53, hi53, hz530, hz531, hz532, hz533⟩ := info53
  clear hq ha hf
  go_enter Try.func10, Try.ntmps10
  go_wp2_with fail
  refine (there_any gq n pc A z v L fn _ h hn).mono ?_
  rintro e w' ⟨rfl, rfl⟩
  rw [← HQ.out]
  go_wp2_with fail
  have hgq := h.own.lt
  have hgab : ga < w'.heap.size ∨ q = 0 := by
    by_cases h0 : q = 0
    · exact .inr h0
    · obtain ⟨b, off, e, hc⟩ := HA.out 0 (by omega)
      injection e with e
      injection e with e1 e2
      subst e1
      exact .inl (World.block_lt_of_cell? _ _ hc)
  have en1 := World.new_ne w' ⟨gq, 1, none⟩ c1
  have hk1 : (w'.alloc (Obj.cells #[] 2)).cell? ⟨gq, 1, none⟩ = some v := (World.cell?_alloc_lt _ _ _ hgq).trans c1
  go_region_law (first
    | (refine step_onto (by rfl) (.tmp 23) (.tmp 24) 31 (by rfl) w'.heap.size 2 i2 (.int .i64 0) 1 8 Try.underlying31 hi2 hz20 hz21 hz22 rfl (by omega) (.slice (some ⟨w'.heap.size, 0, none⟩) 0 0) 0 [] (by rfl) (own_empty w' 2 1) (some ⟨ga, 0, none⟩) q c (vals x q) (by rfl) (by simp [vals_len]) (fun ad e => by
         injection e with e
         subst e
         exact vals_cells (HA.out.kept ((Below.refl _ _).alloc (Nat.le_refl _) _).drew)) (fun e => by cases e) (vals_one x q) (by unfold maxLen; omega) (by omega) (by simp) ?_
       intro v1 w1 hown1 hg1 hform1 hat1
       obtain ⟨g1, cap1, cs1, hv1, hg1b, hB1, hsz1, hqc, hcs1⟩ := own_form hown1 (form_ne hform1 (by simp))
       rw [Nat.zero_add] at hv1
       subst hv1
       have hq1 : IsQ w1 gq A n pc z v L := h.kept (Nat.le_trans (Nat.le_succ _) (by simpa using hg1.size)) (fun g hg _ => (hg1.block g (by simp; omega) (by simp [Value.ownBlock]; omega)).trans (Below.heap_alloc w' _ g hg))
       have c11 : w1.cell? ⟨gq, 1, none⟩ = some v := hq1.own.cell 1
       have en11 := World.new_ne w1 ⟨gq, 1, none⟩ c11
       have hk2 : (w1.alloc (Obj.cells #[.int .i64 fn, .slice (some ⟨g1, 0, none⟩) q cap1] 53)).cell? ⟨gq, 1, none⟩ = some v := (World.cell?_alloc_lt _ _ _ hq1.own.lt).trans c11)
    | (refine step_onto (by rfl) (.tmp 21) (.tmp 27) 28 (by rfl) 0 53 i53 z53 2 32 Try.underlying28 hi53 hz530 hz531 hz532 hz533 (by omega) v L.length (flat L) (by rfl) (hq1.rows.alloc _) (some ⟨w1.heap.size, 0, none⟩) 1 1 (flat1 ⟨fn, g1, q, cap1, x⟩) (by rfl) (by simp [flat1]) (fun ad e => by
         injection e with e
         subst e
         exact World.news_of_block (heap_alloc_new w1 _)) (fun e => by cases e) (by simp [flat1, Value.oneCell']) (by unfold maxLen; omega) (by omega) (Nat.zero_le _) ?_
       intro v2 w2 hown2 hg2 hform2 hat2
       obtain ⟨g2, cap2, hv2, _, hlt2⟩ := hown2.form (by omega)
       subst hv2
       have hvq := own_ne hq1.rows hq1.own (by decide)
       have hB2 : Blk w2 gq 30 #[.slice A n pc, v] := (hg2.block gq (Nat.lt_of_lt_of_le hq1.own.lt (by simp)) (fun e => hvq e.symm)).trans ((Below.heap_alloc w1 _ gq hq1.own.lt).trans hq1.own)
       have c12 : w2.cell? ⟨gq, 1, none⟩ = some v := hB2.cell 1
       have f12 := hB2.fz 1))
  all_goals
    go_wp2_with fail
    go_ret
    refine ⟨rfl, rsee_final h hq1 ⟨hg1.os, hg1.tape, hg1.output, hg1.size, hg1.block⟩ hg1b hB1 hcs1 hg2 hown2 hB2 ?_⟩
    rcases hat2 with e | e
    · exact .inl e.symm
    · exact .inr (by simpa [Value.ownBlock] using e)

end Go.Proofs.Ytemdojckeghbjaa
