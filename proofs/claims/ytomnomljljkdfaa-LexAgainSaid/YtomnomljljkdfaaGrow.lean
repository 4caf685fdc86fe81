/- append onto a slice that is full, whatever its block: the walk's law; the text of a word between two others. Conditions: none. -/
import Derived.Test.YtomnomljljkdfaaBytes
import Derived.Lib.AppendStr
namespace Go.Proofs.Ytomnomljljkdfaa
open Go.RowKit
set_option linter.unusedVariables false

section
variable {P : Program} {w : World}
theorem run_full (base : Nat) (t ty e : TypeId) (i : TypeInfo) (z : Value) (size bytes : Nat) (ht : P.underlying t = some (.slice e)) (hi : P.info? e = some i) (hz : i.zero = some z)
    (hsize : i.size = size) (hby : i.bytes = bytes) (hzs : z.cells.size = size)
    (b : Addr) (n : Nat) (olds : List Value) (hlo : olds.length = n * size) (holds : ∀ j v, olds[j]? = some v → w.cell? (b.add j) = some v)
    (a : Addr) (m c : Nat) (news : List Value) (hl : news.length = m * size) (hnews : ∀ j v, news[j]? = some v → w.cell? (a.add j) = some v) (hm : 0 < m)
    (h63 : n + m ≤ maxLen) (hbytes : (n + m) * bytes ≤ 140737488355328) (hbase : base ≤ w.heap.size) :
    ∃ v' w', (Builtin.append_ #[t, t] ty #[.slice (some b) n n, .slice (some a) m c]).run P w = .ok v' w' ∧ w'.ownsRow base e size v' (n + m) (olds ++ news) ∧ w.grownBy w' none ∧ v'.ownBlock = some w.heap.size := by
  have hge := grownCap_ge w (n + m) n e
  have hmx := grownCap_le_maxLen w (n + m) n e h63
  refine ⟨_, _, run_append_grow (P := P) w t ty e i z ht hi hz b n n olds (by rw [hsize]; exact hlo) holds a m c news (by rw [hsize]; exact hl) hnews (by omega) (by unfold maxLen at h63; omega) (by rw [hby]; exact growslice_fits (by omega) hbytes), ?_, ?_, rfl⟩
  · refine ⟨by rw [List.length_append, hlo, hl, Nat.add_mul], .inr ⟨w.heap.size, _, _, rfl, hbase, heap_alloc_new w.drew _, hge, hmx, ?_, ?_⟩⟩
    · simp only [Array.size_append, List.size_toArray, size_zeroCells, hzs, hlo, hl]
      rw [← Nat.add_mul, ← Nat.add_mul]
      congr 1
      omega
    · have e1 : (olds ++ news).length = (n + m) * size := by rw [List.length_append, hlo, hl, Nat.add_mul]
      simp only [Array.toList_append]
      rw [← e1]
      exact List.take_left
  · exact ⟨rfl, rfl, rfl, by simp, fun k hk hn => (World.grownBy_alloc w.drew _ none).block k hk hn⟩

theorem wpList_full {ops : Array Oper} {rest : List Oper} {o : Oper} {ac : Act} {Q : Exit → Act → World → Prop} (hgd : o.guard = none) (s x : Operand) (t : TypeId)
    (ho : o.op = .call { callee := .builtin .append, args := #[s, x], argTypes := #[t, t] })
    (base : Nat) (e : TypeId) (i : TypeInfo) (z : Value) (size bytes : Nat) (ht : P.underlying t = some (.slice e)) (hi : P.info? e = some i) (hz : i.zero = some z)
    (hsize : i.size = size) (hby : i.bytes = bytes) (hzs : z.cells.size = size)
    (b : Addr) (n : Nat) (olds : List Value) (hs : ac.eval s = .slice (some b) n n) (hlo : olds.length = n * size) (holds : ∀ j v, olds[j]? = some v → w.cell? (b.add j) = some v)
    (a : Addr) (m c : Nat) (news : List Value) (hx : ac.eval x = .slice (some a) m c) (hl : news.length = m * size) (hnews : ∀ j v, news[j]? = some v → w.cell? (a.add j) = some v) (hm : 0 < m)
    (h63 : n + m ≤ maxLen) (hbytes : (n + m) * bytes ≤ 140737488355328) (hbase : base ≤ w.heap.size)
    (h : ∀ v' w', w'.ownsRow base e size v' (n + m) (olds ++ news) → w.grownBy w' none → v'.ownBlock = some w.heap.size → wpList P ops Q rest (ac.put o.dst v') w') : wpList P ops Q (o :: rest) ac w := by
  refine wpList_plain hgd fun K hK => ?_
  obtain ⟨v', w', hr, h2, h3, h4⟩ := run_full (P := P) base t o.type e i z size bytes ht hi hz hsize hby hzs b n olds hlo holds a m c news hl hnews hm h63 hbytes hbase
  unfold Oper.wp execOp
  simp only [ho, resolve, invoke, builtin, Sem.run_bind, Sem.run_pure, Result.andThen_ok, List.map_toArray, List.map_cons, List.map_nil, hs, hx, hr]
  exact hK _ _ (h v' w' h2 h3 h4)
end

/-- Bytes in a row. -/
def cat (m : Nat) (y x : Nat → Int) : Nat → Int := fun j => if j < m then y j else x (j - m)
theorem bytesV_cat (y : Nat → Int) (m : Nat) (x : Nat → Int) (k : Nat) : bytesV y m ++ bytesV x k = bytesV (cat m y x) (m + k) := by
  apply List.ext_getElem?
  intro j
  rcases Nat.lt_or_ge j m with h | h
  · rw [List.getElem?_append_left (by rw [bytesV_len]; exact h), bytesV_get _ _ _ h, bytesV_get _ _ _ (by omega)]
    unfold cat; rw [if_pos h]
  · rw [List.getElem?_append_right (by rw [bytesV_len]; exact h), bytesV_len]
    rcases Nat.lt_or_ge j (m + k) with h2 | h2
    · rw [bytesV_get _ _ _ (by omega), bytesV_get _ _ _ h2]
      unfold cat; rw [if_neg (by omega)]
    · rw [List.getElem?_eq_none (by rw [bytesV_len]; omega), List.getElem?_eq_none (by rw [bytesV_len]; omega)]

theorem IsRun.one (p : Int → Bool) (n : Nat) (z : Nat → Int) (a : Nat) (ha : a < n) (h : p (z a) = true) (h2 : a + 1 < n → p (z (a + 1)) = false) : IsRun p n z a 1 :=
  ⟨by omega, fun j hj => by obtain rfl : j = 0 := (by omega); exact h, h2⟩
theorem inner_of_letter {c : Int} (h : isLetter c = true) : isInner c = true := by unfold isInner; rw [h]; rfl

/-- A word between two others. -/
structure Between (N : Nat) (y : Nat → Int) : Prop where
  pos : 0 < N
  y0 : y 0 = 97
  y1 : y 1 = 32
  y2 : y 2 = 113
  all : ∀ j, j < N → isInner (y (2 + j)) = true
  yN : y (2 + N) = 32
  yM : y (3 + N) = 98
theorem Between.run {N : Nat} {y : Nat → Int} (h : Between N y) : IsRun isInner (N + 4) y 2 N := ⟨by omega, h.all, fun _ => by rw [h.yN]; rfl⟩
theorem Between.first {N : Nat} {y : Nat → Int} (h : Between N y) {l : List Tok} {r : Option Nat} (h2 : Lexes (N + 4) y 2 l r) : Lexes (N + 4) y 0 (⟨1, 0, 1⟩ :: l) r :=
  .word 0 1 l r (by omega) (by rw [h.y0]; rfl) (.one _ _ _ _ (by omega) (by rw [h.y0]; rfl) (fun _ => by show isInner (y 1) = false; rw [h.y1]; rfl)) (by omega) (.blank 1 _ _ (by omega) (by rw [h.y1]; rfl) h2)
theorem Between.short {N : Nat} {y : Nat → Int} (h : Between N y) (hN : N ≤ 32) : Lexes (N + 4) y 0 [⟨1, 0, 1⟩, ⟨1, 2, N⟩, ⟨1, N + 3, 1⟩] none := by
  have hM : y (N + 3) = 98 := by rw [Nat.add_comm]; exact h.yM
  refine h.first (.word 2 N _ _ (by omega) (by rw [h.y2]; rfl) h.run hN (.blank _ _ _ (by omega) (by rw [h.yN]; rfl) ?_))
  rw [show 2 + N + 1 = N + 3 from by omega]
  exact .word _ 1 _ _ (by omega) (by rw [hM]; rfl) (.one _ _ _ _ (by omega) (by rw [hM]; rfl) (fun h => by omega)) (by omega) .stop
theorem Between.long {N : Nat} {y : Nat → Int} (h : Between N y) (hN : 32 < N) : Lexes (N + 4) y 0 [⟨1, 0, 1⟩] (some 2) :=
  h.first (.long 2 N (by omega) (by rw [h.y2]; rfl) h.run hN)
end Go.Proofs.Ytomnomljljkdfaa
