/- Contracts of the document's Calls and Value. Conditions: the blocks that hold the profile are known. -/
import Derived.Test.YtemdojckeghbjaaRef
namespace Go.Proofs.Ytemdojckeghbjaa
open Go.RowKit
set_option linter.unusedVariables false
attribute [local go_sem] maxI minI

theorem rows_form {w : World} {gq n pc : Nat} {A : Option Addr} {z : Nat → Int} {v : Value} {L : List CallD} (h : IsQ w gq A n pc z v L) :
    ∃ AL cL, v = .slice AL L.length cL ∧ ∀ i (hi : i < L.length), ∃ gL, AL = some ⟨gL, 0, none⟩ ∧ w.cell? ⟨gL, i * 2, none⟩ = some (.int .i64 (L[i]).fn) ∧ w.cell? ⟨gL, i * 2 + 1, none⟩ = some (.slice (some ⟨(L[i]).b, 0, none⟩) (L[i]).m (L[i]).c) := by
  rcases h.rows.2 with ⟨h1, h2⟩ | ⟨g, cap, cur, hv, hg, hh, hn, hc, hs, ht⟩
  · exact ⟨none, 0, by rw [h1, h2], fun i hi => by omega⟩
  · refine ⟨some ⟨g, 0, none⟩, cap, hv, fun i hi => ⟨g, rfl, ?_, ?_⟩⟩
    · have := h.rows
      rw [hv] at this
      rw [this.cellAt _ (by omega), flat_fn L i hi]
    · have := h.rows
      rw [hv] at this
      rw [this.cellAt _ (by omega), flat_args L i hi]

/-- How many calls of a function. -/
def cnt (fn : Int) (L : List CallD) : Nat := (L.filter fun e => e.fn == fn).length
theorem cnt_snoc (fn : Int) (L : List CallD) (e : CallD) : cnt fn (L ++ [e]) = cnt fn L + if e.fn = fn then 1 else 0 := by
  unfold cnt
  rw [List.filter_append, List.length_append]
  by_cases h : e.fn = fn
  · simp [h]
  · simp [h]
theorem cnt_le (fn : Int) (L : List CallD) : cnt fn L ≤ L.length := List.length_filter_le _ _
theorem take_snoc {α : Type} (L : List α) (k : Nat) (h : k < L.length) : L.take (k + 1) = L.take k ++ [L[k]] := by
  rw [List.take_succ_eq_append_getElem h]

set_option maxHeartbeats 1000000 in
theorem rcalls_any (gq n pc : Nat) (A : Option Addr) (z : Nat → Int) (v : Value) (L : List CallD) (fn : Int) (w : World) (h : IsQ w gq A n pc z v L) (hL : L.length ≤ 100000) :
    Calls Try.prog 13 #[.pointer (some ⟨gq, 0, none⟩), .int .i64 fn] w fun e w' => e = .returned (.int .i64 (min (cnt fn L) 1000)) ∧ w' = w := by
  obtain ⟨AL, cL, rfl, hc⟩ := rows_form h
  have HC := hid hc
  have c1 : w.cell? ⟨gq, 1, none⟩ = some (.slice AL L.length cL) := h.own.cell 1
  clear hc h
  go_enter Try.func13, Try.ntmps13
  go_wp2_with fail
  go_loop [5, 6] (fun c i => ∃ k : Nat, k ≤ L.length ∧ i = .int .i64 k ∧ c = .int .i64 (cnt fn (L.take k))) (fun _ i => L.length - (intOf i).toNat)
  case atStart => exact ⟨0, Nat.zero_le _, rfl, rfl⟩
  case round =>
    obtain ⟨k, hk, rfl, rfl⟩ := hrel
    by_cases hlt : k < L.length
    · obtain ⟨gL, rfl, hf, _⟩ := HC.out k hlt
      have hs : Hid (cnt fn (L.take (k + 1)) = cnt fn (L.take k) + if (L[k]).fn = fn then 1 else 0) := by unfold Hid; rw [take_snoc L k hlt, cnt_snoc]
      have hle : cnt fn (L.take k) ≤ 100000 := Nat.le_trans (cnt_le _ _) (by rw [List.length_take]; omega)
      generalize cnt fn (L.take k) = c0 at hs hle
      generalize hkf : (L[k]).fn = f at hf hs
      clear hkf
      by_cases hff : f = fn
      · have hs2 : Hid (cnt fn (L.take (k + 1)) = c0 + 1) := hs.out.trans (by rw [if_pos hff])
        have hq : (f == fn) = true := by simp [hff]
        clear hs hff
        go_wp2_with fail
        go_round
        case rel => exact ⟨k + 1, by omega, by go_num, by rw [hs2.out]; go_num⟩
        case measure => simp [intOf]; omega
      · have hs2 : Hid (cnt fn (L.take (k + 1)) = c0) := hs.out.trans (by rw [if_neg hff]; rfl)
        have hq : (f == fn) = false := by simp [hff]
        clear hs hff
        go_wp2_with fail
        go_round
        case rel => exact ⟨k + 1, by omega, by go_num, by rw [hs2.out]⟩
        case measure => simp [intOf]; omega
    · have hkl : k = L.length := by omega
      subst hkl
      have ht : Hid (cnt fn (L.take L.length) = cnt fn L) := by unfold Hid; rw [List.take_length]
      rw [ht.out]
      go_wp2_with fail
      go_ret
      exact ⟨rfl, rfl⟩


/-- What a parameter was in the calls of a function, the last one first. -/
def FL (fn : Int) (k : Nat) (L : List CallD) : List Int := (L.reverse.filter fun e => e.fn == fn).map fun e => e.x k
theorem FL_snoc (fn : Int) (k : Nat) (L : List CallD) (e : CallD) : FL fn k (L ++ [e]) = if e.fn = fn then e.x k :: FL fn k L else FL fn k L := by
  unfold FL
  rw [List.reverse_append, List.reverse_singleton, List.singleton_append, List.filter_cons]
  by_cases h : e.fn = fn
  · simp [h]
  · simp [h]
def tw (v : Int) (F : List Int) : Nat := (F.takeWhile fun x => x == v).length
theorem tw_cons (v x : Int) (F : List Int) : tw v (x :: F) = if x = v then tw v F + 1 else 0 := by
  unfold tw
  by_cases h : x = v
  · simp [h]
  · simp [h]
def runV : List Int → Int
  | [] => 0
  | v :: _ => v
def runN : List Int → Nat
  | [] => 0
  | v :: F => 1 + tw v F

/-- What the loop knows when j calls are left. -/
def VInv (fn : Int) (k : Nat) (L : List CallD) (j : Nat) (last : Int) (c : Nat) : Prop :=
  c ≤ L.length - j ∧ ((c = 0 ∧ last = 0 ∧ FL fn k L = FL fn k (L.take j)) ∨ (0 < c ∧ runV (FL fn k L) = last ∧ runN (FL fn k L) = c + tw last (FL fn k (L.take j))))
theorem VInv.start (fn : Int) (k : Nat) (L : List CallD) : VInv fn k L L.length 0 0 := ⟨by omega, .inl ⟨rfl, rfl, by rw [List.take_length]⟩⟩
theorem VInv.skip {fn : Int} {k : Nat} {L : List CallD} {j : Nat} {last : Int} {c : Nat} (h : VInv fn k L (j + 1) last c) (hj : j < L.length) (hf : (L[j]).fn ≠ fn) : VInv fn k L j last c := by
  obtain ⟨h1, h2⟩ := h
  rw [take_snoc L j hj, FL_snoc, if_neg hf] at h2
  exact ⟨by omega, h2⟩
theorem VInv.more {fn : Int} {k : Nat} {L : List CallD} {j : Nat} {last : Int} {c : Nat} (h : VInv fn k L (j + 1) last c) (hj : j < L.length) (hf : (L[j]).fn = fn) (hx : c = 0 ∨ (L[j]).x k = last) : VInv fn k L j ((L[j]).x k) (c + 1) := by
  obtain ⟨h1, h2⟩ := h
  rw [take_snoc L j hj, FL_snoc, if_pos hf] at h2
  refine ⟨by omega, .inr ⟨by omega, ?_⟩⟩
  rcases h2 with ⟨rfl, _, h2⟩ | ⟨h0, h3, h4⟩
  · rw [h2]
    exact ⟨rfl, by simp [runN]⟩
  · have e : (L[j]).x k = last := by
      rcases hx with hx | hx
      · omega
      · exact hx
    rw [e] at h4 ⊢
    rw [tw_cons, if_pos rfl] at h4
    exact ⟨h3, by omega⟩
theorem VInv.stop {fn : Int} {k : Nat} {L : List CallD} {j : Nat} {last : Int} {c : Nat} (h : VInv fn k L (j + 1) last c) (hj : j < L.length) (hf : (L[j]).fn = fn) (h0 : 0 < c) (hx : (L[j]).x k ≠ last) : runV (FL fn k L) = last ∧ runN (FL fn k L) = c := by
  obtain ⟨h1, h2⟩ := h
  rw [take_snoc L j hj, FL_snoc, if_pos hf] at h2
  rcases h2 with ⟨rfl, _, _⟩ | ⟨_, h3, h4⟩
  · omega
  · rw [tw_cons, if_neg hx] at h4
    exact ⟨h3, by omega⟩
theorem VInv.done {fn : Int} {k : Nat} {L : List CallD} {last : Int} {c : Nat} (h : VInv fn k L 0 last c) : runV (FL fn k L) = last ∧ runN (FL fn k L) = c := by
  obtain ⟨h1, h2⟩ := h
  rcases h2 with ⟨rfl, rfl, h2⟩ | ⟨_, h3, h4⟩
  · rw [h2]; exact ⟨rfl, rfl⟩
  · exact ⟨h3, h4⟩

theorem rvalue_out (gq n pc : Nat) (A : Option Addr) (z : Nat → Int) (v : Value) (L : List CallD) (fn k : Int) (w : World) (h : IsQ w gq A n pc z v L) (hn : n ≤ 1000000) (hk : k < 0 ∨ thereV n z fn ≤ k) :
    Calls Try.prog 15 #[.pointer (some ⟨gq, 0, none⟩), .int .i64 fn, .int .i64 k] w fun e w' => e = .returned (.tuple #[.int .i64 0, .int .i64 0]) ∧ w' = w := by
  by_cases hk0 : k < 0
  · clear hk
    go_enter Try.func15, Try.ntmps15
    go_wp2_with fail
    go_ret2
    exact ⟨rfl, rfl⟩
  · have hk1 : 0 ≤ k := by omega
    obtain ⟨T, hT⟩ : ∃ T, thereV n z fn = T := ⟨_, rfl⟩
    rw [hT] at hk
    have hk2 : T ≤ k := by omega
    have HT := hid hT
    clear hT hk hk0
    go_enter Try.func15, Try.ntmps15
    go_wp2_with fail
    refine (there_any gq n pc A z v L fn _ h hn).mono ?_
    rintro e w' ⟨rfl, rfl⟩
    rw [HT.out]
    go_wp2_with fail
    go_ret2
    exact ⟨rfl, rfl⟩

set_option maxRecDepth 100000 in
set_option maxHeartbeats 4000000 in
theorem rvalue_in (gq n pc : Nat) (A : Option Addr) (z : Nat → Int) (v : Value) (L : List CallD) (fn : Int) (k : Nat) (w : World) (h : IsQ w gq A n pc z v L) (hn : n ≤ 1000000) (hk : (k : Int) < thereV n z fn)
    (hM : ∀ e ∈ L, (e.m : Int) = thereV n z e.fn) (hL : L.length ≤ 100000) :
    Calls Try.prog 15 #[.pointer (some ⟨gq, 0, none⟩), .int .i64 fn, .int .i64 (k : Int)] w fun e w' => e = .returned (.tuple #[.int .i64 (runV (FL fn k L)), .int .i64 (min (runN (FL fn k L) : Int) 1000)]) ∧ Below w.heap.size w w' := by
  obtain ⟨VV, hVV⟩ : ∃ V, runV (FL fn k L) = V := ⟨_, rfl⟩
  obtain ⟨NN, hNN⟩ : ∃ N, runN (FL fn k L) = N := ⟨_, rfl⟩
  rw [hVV, hNN]
  have HVV := hid hVV
  have HNN := hid hNN
  clear hVV hNN
  obtain ⟨T, hT⟩ : ∃ T, thereV n z fn = T := ⟨_, rfl⟩
  rw [hT] at hk
  have HT := hid hT
  clear hT
  have HM := hid hM
  clear hM
  obtain ⟨AL, cL, hv, hc⟩ := rows_form h
  subst hv
  have HC := hid hc
  have c1 : w.cell? ⟨gq, 1, none⟩ = some (.slice AL L.length cL) := h.own.cell 1
  have hgq := h.own.lt
  have HA := hid h.args
  have hu53 := Try.underlying53
  clear hc
  go_enter Try.func15, Try.ntmps15
  go_wp2_with fail
  refine (there_any gq n pc A z _ L fn _ h hn).mono ?_
  rintro e w' ⟨rfl, rfl⟩
  rw [HT.out]
  go_wp2_with fail
  have hk0 : 0 ≤ (k : Int) := by omega
  go_loopw [8, 9, 10] (fun l c i wr => ∃ (j : Nat) (last : Int) (nn : Nat), j ≤ L.length ∧ i = .int .i64 j ∧ l = .int .i64 last ∧ c = .int .i64 nn ∧ Hid (VInv fn k L j last nn) ∧ nn ≤ 100000 ∧ Below w'.heap.size w' wr)
    (fun _ _ i _ => (intOf i).toNat)
  case atStart => exact ⟨L.length, 0, 0, Nat.le_refl _, rfl, rfl, rfl, VInv.start fn k L, by omega, Below.refl _ _⟩
  case round =>
    obtain ⟨j, last, nn, hj, rfl, rfl, rfl, hV, hnn, hb⟩ := hrel
    by_cases h0 : j = 0
    · subst h0
      obtain ⟨d1, d2⟩ := hV.out.done
      rw [HVV.out] at d1
      rw [HNN.out] at d2
      subst d1 d2
      go_wp2_with fail
      go_ret2
      exact ⟨rfl, hb⟩
    · obtain ⟨i, rfl⟩ : ∃ i, j = i + 1 := ⟨j - 1, by omega⟩
      clear h0
      have hi : i < L.length := by omega
      obtain ⟨gL, rfl, hf0, ha0⟩ := HC.out i hi
      obtain ⟨cs, hB0, hx0⟩ := HA.out (L[i]) (List.getElem_mem hi)
      have hgL := World.block_lt_of_cell? _ _ hf0
      have hf : wr.cell? ⟨gL, i * 2, none⟩ = some (.int .i64 (L[i]).fn) := (hb.cell (p := ⟨gL, i * 2, none⟩) hgL).trans hf0
      have ha : wr.cell? ⟨gL, i * 2 + 1, none⟩ = some (.slice (some ⟨(L[i]).b, 0, none⟩) (L[i]).m (L[i]).c) := (hb.cell (p := ⟨gL, i * 2 + 1, none⟩) hgL).trans ha0
      have cr1 : wr.cell? ⟨gq, 1, none⟩ = some (.slice (some ⟨gL, 0, none⟩) L.length cL) := (hb.cell (p := ⟨gq, 1, none⟩) hgq).trans c1
      clear hf0 ha0
      have hsk := hid (fun h => hV.out.skip hi h)
      have hmo := hid (fun h1 h2 => hV.out.more hi h1 h2)
      have hst := hid (fun h1 h2 h3 => hV.out.stop hi h1 h2 h3)
      have hm0 := hid (HM.out (L[i]) (List.getElem_mem hi))
      have hxx : Hid (∀ j, j < (L[i]).m → w'.cell? ⟨(L[i]).b, j, none⟩ = some (.int .i64 ((L[i]).x j))) := fun j hj => (hB0.cell j).trans (hx0 j hj)
      clear hx0
      generalize L[i] = e at hf ha hsk hmo hst hm0 hxx hB0
      obtain ⟨ef, eb, em, ec, ex⟩ := e
      dsimp only at hf ha hsk hmo hst hm0 hxx hB0
      have hbb := hb.alloc hb.size (Obj.cells #[Value.int .i64 ef, Value.slice (some ⟨eb, 0, none⟩) em ec] 53)
      by_cases hff : ef = fn
      · subst hff
        have hem : k < em := by
          have := hm0.out
          rw [HT.out] at this
          omega
        have hbw : eb < w'.heap.size := Blk.lt hB0
        have hx : wr.cell? ⟨eb, k, none⟩ = some (.int .i64 (ex k)) := (hb.cell (p := ⟨eb, k, none⟩) hbw).trans (hxx.out k hem)
        generalize hy : ex k = y at hx hmo hst
        clear hy
        have hx2 : (wr.alloc (Obj.cells #[Value.int .i64 ef, Value.slice (some ⟨eb, 0, none⟩) em ec] 53)).cell? ⟨eb, k, none⟩ = some (.int .i64 y) := (World.cell?_alloc_lt _ _ _ (Nat.lt_of_lt_of_le hbw hb.size)).trans hx
        by_cases hn0 : nn = 0
        · subst hn0
          have hV' := hid (hmo.out rfl (.inl rfl))
          go_wp2_with fail
          go_roundw
          case rel => exact ⟨i, y, 1, by omega, by go_num, rfl, rfl, hV', by omega, hbb⟩
          case measure => simp [intOf]
        · have hn1 : 0 < (nn : Int) := by omega
          have hn2 : decide ((nn : Int) > 0) = true := by simp; omega
          by_cases hyl : y = last
          · have hV' := hid (hmo.out rfl (.inr hyl))
            have hq : (y != last) = false := by simp [hyl]
            have hq2 : (y == last) = true := by simp [hyl]
            have hnl : nn + 1 ≤ 100000 := by have := hV'.out.1; omega
            clear hyl hn0
            go_wp2_with fail
            go_roundw
            case rel => exact ⟨i, y, nn + 1, by omega, by go_num, rfl, by go_num, hV', hnl, hbb⟩
            case measure => simp [intOf]
          · obtain ⟨d1, d2⟩ := hst.out rfl (by omega) hyl
            rw [HVV.out] at d1
            rw [HNN.out] at d2
            subst d1 d2
            have hq : (y != VV) = true := by simp [hyl]
            have hq2 : (y == VV) = false := by simp [hyl]
            clear hyl hn0
            go_wp2_with fail
            go_ret2
            exact ⟨rfl, hbb⟩
      · have hq : (ef != fn) = true := by simp [hff]
        have hq2 : (ef == fn) = false := by simp [hff]
        have hV' := hid (hsk.out hff)
        clear hff
        go_wp2_with fail
        go_roundw
        case rel => exact ⟨i, last, nn, by omega, by go_num, rfl, rfl, hV', hnn, hbb⟩
        case measure => simp [intOf]

end Go.Proofs.Ytemdojckeghbjaa
