/- The document's answer: contract of Lex. Conditions: none. -/
import Derived.Test.YtomnomljljkdfaaRefN
namespace Go.Proofs.Ytomnomljljkdfaa
open Go.RowKit
set_option linter.unusedVariables false

theorem info33 : ∃ i z, Try.prog.info? 33 = some i ∧ i.zero = some z ∧ i.size = 3 ∧ i.bytes = 32 ∧ z.cells.size = 3 := by
  have h : (Try.prog.info? 33).map (fun i => (i.zero.map (·.cells.size), i.size, i.bytes)) = some (some 3, 3, 32) := by kernel_rfl
  cases hi : Try.prog.info? 33 with
  | none => rw [hi] at h; cases h
  | some i =>
    rw [hi] at h
    simp only [Option.map_some, Option.some.injEq, Prod.mk.injEq] at h
    obtain ⟨h1, h2, h3⟩ := h
    cases hz : i.zero with
    | none => rw [hz] at h1; cases h1
    | some z =>
      rw [hz] at h1
      simp only [Option.map_some, Option.some.injEq] at h1
      exact ⟨i, z, rfl, hz, h2, h3, h1⟩

/-- Block g holds these tokens of the document's. -/
def RToks (w : World) (g : Nat) (z : Nat → Int) (T : List Tok) : Prop := ∃ cs, Blk w g 33 cs ∧ ∀ j, j < T.length * 3 → cs[j]? = (flat z T)[j]?
theorem RToks.at_ {w : World} {g : Nat} {z : Nat → Int} {T : List Tok} (h : RToks w g z T) {i : Nat} {t : Tok} (ht : T[i]? = some t) :
    w.cell? ⟨g, i * 3, none⟩ = some (.int .i64 t.kind) ∧ w.cell? ⟨g, i * 3 + 1, none⟩ = some (.string (sub z t.at_ t.size)) ∧ w.cell? ⟨g, i * 3 + 2, none⟩ = some (.int .i64 t.at_) := by
  obtain ⟨cs, h1, h2⟩ := h
  have hi : i < T.length := (List.getElem?_eq_some_iff.1 ht).1
  refine ⟨(h1.cell _).trans ((h2 _ (by omega)).trans ?_), (h1.cell _).trans ((h2 _ (by omega)).trans ?_), (h1.cell _).trans ((h2 _ (by omega)).trans ?_)⟩
  · exact flat_get z T i t 0 ht (by omega)
  · exact flat_get z T i t 1 ht (by omega)
  · exact flat_get z T i t 2 ht (by omega)
/-- The cells of one token, in a block of its own. -/
theorem rtok_cells {w : World} {g : Nat} {z : Nat → Int} (t : Tok) {S : ByteArray} (h : Blk w g 33 #[.int .i64 t.kind, .string S, .int .i64 t.at_]) (hS : S = sub z t.at_ t.size) :
    ∀ ad, (some ⟨g, 0, none⟩ : Option Addr) = some ad → ∀ j u, (tok3 z t)[j]? = some u → w.cell? (ad.add j) = some u := by
  rintro ad e j u hu
  injection e with e
  subst e hS
  have : (Addr.mk g 0 none).add j = ⟨g, j, none⟩ := by unfold Addr.add; split <;> simp_all
  rw [this, h.cell j, ← hu]
  rcases j with _ | _ | _ | j <;> rfl

set_option maxRecDepth 100000 in
set_option maxHeartbeats 4000000 in
theorem ref_lex (n : Nat) (z : Nat → Int) (w : World) (hn : n ≤ 65536) (hz : ∀ j, j < n → 0 ≤ z j ∧ z j ≤ 255) :
    Calls Try.prog 12 #[.string (sub z 0 n)] w fun e w' => ((∃ l g c, Lexes n z 0 l none ∧ e = .returned (.tuple #[.slice (some ⟨g, 0, none⟩) (l.length + 1) c, .int .i64 0, .int .i64 0]) ∧ w.heap.size ≤ g ∧ l.length + 1 ≤ c ∧ RToks w' g z (l ++ [⟨4, n, 0⟩])) ∨
      (∃ l p, Lexes n z 0 l (some p) ∧ e = .returned (.tuple #[.slice none 0 0, .int .i64 (p : Nat), .int .i64 2]))) ∧ Below w.heap.size w w' := by
  have hs := sub_size z 0 n
  have HZ := hid hz
  obtain ⟨i33, z33, hi33, hz33, hs33, hb33, hc33⟩ := info33
  have hu33 := Try.underlying33
  clear hz
  go_enter Try.func12, Try.ntmps12
  go_wp2_with fail
  refine (ref_skip n z 0 _ (by omega) (by omega) (fun j hj => HZ.out j hj)).mono ?_
  rintro e w1 ⟨⟨q, _, hq, rfl, hlx, hnb⟩, rfl⟩
  have HLX := hid hlx
  have HNB := hid hnb
  clear hlx hnb
  have hown0 := own_empty w 33 3
  go_wp2_with fail
  go_loopw [5, 6] (fun v i wr => ∃ (k : Nat) (L : List Tok), k ≤ n ∧ i = .int .i64 k ∧ wr.ownsRow w.heap.size 33 3 v L.length (flat z L) ∧ v ≠ .slice none 0 0 ∧ L.length ≤ k ∧ Hid (∀ l r, Lexes n z k l r → Lexes n z 0 (L ++ l) r) ∧ Hid (k < n → isBlank (z k) = false ∧ z k ≠ 35) ∧ Below w.heap.size w wr)
    (fun _ i _ => n - (intOf i).toNat)
  case atStart => exact ⟨q, [], hq, rfl, hown0, by simp, by simp, HLX, HNB, (Below.refl _ _).alloc (Nat.le_refl _) _⟩
  case round =>
    obtain ⟨k, L, hk, rfl, hown, hne, hL, hlex, hnb, hb⟩ := hrel
    by_cases hlt : k < n
    · go_wp2_with fail
      refine (ref_next n z k _ hn hlt (fun j hj => HZ.out j hj) (hnb.out hlt).1 (hnb.out hlt).2).mono ?_
      rintro e w3 ⟨⟨kind, s, hs0, hfit, rfl, hstep⟩ | ⟨p, hp, rfl, hw⟩, hB3⟩
      · have HST := hid hstep
        clear hstep
        have hext : (sub z k s).size = s := sub_size z k s
        have hown3 : w3.ownsRow w.heap.size 33 3 u5 L.length (flat z L) := own_heap hown (fun g hg => hB3.block g (hown.lt g hg).2)
        have hown1 := (hown3.alloc (Obj.cells #[Value.int IntKind.i64 kind, Value.string (sub z k s), Value.int IntKind.i64 ↑k] 33)).alloc (Obj.cells #[Value.int IntKind.i64 kind, Value.string (sub z k s), Value.int IntKind.i64 ↑k] 33)
        have hb3 : Below w.heap.size w w3 := hb.trans (hB3.mono hb.size)
        have hb3a := hb3.alloc hb3.size (Obj.cells #[Value.int IntKind.i64 kind, Value.string (sub z k s), Value.int IntKind.i64 ↑k] 33)
        have hb1 := hb3a.alloc hb3a.size (Obj.cells #[Value.int IntKind.i64 kind, Value.string (sub z k s), Value.int IntKind.i64 ↑k] 33)
        have hBa := Blk.new w3 33 #[Value.int IntKind.i64 kind, Value.string (sub z k s), Value.int IntKind.i64 ↑k]
        have hBb := hBa.alloc (Obj.cells #[Value.int IntKind.i64 kind, Value.string (sub z k s), Value.int IntKind.i64 ↑k] 33)
        have hBc := Blk.new (w3.alloc (Obj.cells #[Value.int IntKind.i64 kind, Value.string (sub z k s), Value.int IntKind.i64 ↑k] 33)) 33 #[Value.int IntKind.i64 kind, Value.string (sub z k s), Value.int IntKind.i64 ↑k]
        rw [show (w3.alloc (Obj.cells #[Value.int IntKind.i64 kind, Value.string (sub z k s), Value.int IntKind.i64 ↑k] 33)).heap.size = w3.heap.size + 1 from by simp] at hBc
        have hsrc : Hid _ := hid (rtok_cells (z := z) ⟨kind, k, s⟩ hBc rfl)
        have hold := hid fun g (hg : u5.ownBlock = some g) => Nat.lt_of_lt_of_le (hown.lt g hg).2 hB3.size
        have h63 : L.length + 1 ≤ maxLen := by unfold maxLen; omega
        clear hBa hBc hown3 hown hb3 hb3a hb
        go_wp2_with (at_builtin
                     refine wpList_onto rfl (.tmp 28) (.tmp 30) 28 rfl w.heap.size 33 i33 z33 3 32 Try.underlying28 hi33 hz33 hs33 hb33 hc33 (by omega) u5 L.length (flat z L) rfl hown1 (some ⟨w3.heap.size + 1, 0, none⟩) 1 1 (tok3 z ⟨kind, k, s⟩) rfl rfl hsrc.out (fun e => by cases e) (tok_one z _) h63 (by omega) hb1.size ?_
                     intro v6 w6 hown6 hg6 hform6 hat6
                     have hcell : w6.cell? ⟨w3.heap.size, 1, none⟩ = some (.string (sub z k s)) := (World.cell?_of_block (a := ⟨w3.heap.size, 1, none⟩) (hg6.block _ hBb.lt (fun e => absurd (hold.out _ e.symm) (Nat.lt_irrefl _)))).trans (hBb.cell 1)
                     have hne6 := hid (form_ne hform6 hne)
                     have hb6 := hb1.grown hg6 hb1.size (fun g hg => (hown1.lt g hg).1)
                     clear hform6 hat6 hg6)
        rw [show ((k : Int) + (s : Int)) = ((k + s : Nat) : Int) from by omega]
        refine (ref_skip n z (k + s) _ (by omega) hfit (fun j hj => HZ.out j hj)).mono ?_
        rintro e w7 ⟨⟨q2, hq20, hq2, rfl, hlx2, hnb2⟩, rfl⟩
        have HLX2 := hid hlx2
        have HNB2 := hid hnb2
        clear hlx2 hnb2
        go_wp2_with fail
        go_roundw
        case rel => exact ⟨q2, L ++ [⟨kind, k, s⟩], hq2, rfl, (by rw [flat_snoc, List.length_append]; exact hown6), hne6.out, (by rw [List.length_append]; simp; omega), hid (fun l r h => by have := hlex.out _ _ (HST.out _ _ (HLX2.out _ _ h)); rw [List.append_assoc]; exact this), HNB2, hb6⟩
        case measure => simp [intOf]; omega
      · have HW := hid hw
        clear hw
        go_wp2_with fail
        go_ret3
        exact ⟨.inr ⟨L, p, (by have := hlex.out [] (some p) HW.out; rwa [List.append_nil] at this), rfl⟩, (hb.trans (hB3.mono hb.size)).alloc (Nat.le_trans hb.size hB3.size) _⟩
    · have hkn : k = n := by omega
      subst hkn
      have hown2 := hown.alloc (Obj.cells #[Value.int IntKind.i64 4, Value.string { data := #[] }, Value.int IntKind.i64 (k : Int)] 33)
      have hb2 := hb.alloc hb.size (Obj.cells #[Value.int IntKind.i64 4, Value.string { data := #[] }, Value.int IntKind.i64 (k : Int)] 33)
      have hsrc : Hid _ := hid (rtok_cells (z := z) ⟨4, k, 0⟩ (Blk.new wr 33 #[Value.int IntKind.i64 4, Value.string { data := #[] }, Value.int IntKind.i64 (k : Int)]) rfl)
      have h63 : L.length + 1 ≤ maxLen := by unfold maxLen; omega
      go_wp2_with (at_builtin
                   refine wpList_onto rfl (.tmp 39) (.tmp 43) 28 rfl w.heap.size 33 i33 z33 3 32 Try.underlying28 hi33 hz33 hs33 hb33 hc33 (by omega) u5 L.length (flat z L) rfl hown2 (some ⟨wr.heap.size, 0, none⟩) 1 1 (tok3 z ⟨4, k, 0⟩) rfl rfl hsrc.out (fun e => by cases e) (tok_one z _) h63 (by omega) hb2.size ?_
                   intro v3 w3 hown3 hg3 hform3 hat3)
      go_ret3
      rw [← flat_snoc] at hown3
      obtain ⟨g, c3, cs, rfl, hg0, hB, _, hc3, hcs⟩ := own_some hown3 (by rw [flat_snoc]; simp [tok3])
      exact ⟨.inl ⟨L, g, c3, (by have := hlex.out [] none .stop; rwa [List.append_nil] at this), rfl, hg0, hc3, cs, hB, fun j hj => hcs j (by simpa using hj)⟩, hb2.grown hg3 hb2.size (fun k hk => (hown2.lt k hk).1)⟩
end Go.Proofs.Ytomnomljljkdfaa
