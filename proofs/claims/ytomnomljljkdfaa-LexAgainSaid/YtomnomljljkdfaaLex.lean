/- The contract of lex.Lex: bytes as tokens. Conditions: none. -/
import Derived.Test.YtomnomljljkdfaaTools
namespace Go.Proofs.Ytomnomljljkdfaa
open Go.RowKit
set_option linter.unusedVariables false

/-- The cells of tokens. -/
def tok3 (z : Nat → Int) (t : Tok) : List Value := [.int .i64 t.kind, .string (sub z t.at_ t.size), .int .i64 t.at_]
def flat (z : Nat → Int) (L : List Tok) : List Value := L.flatMap (tok3 z)
theorem flat_len (z : Nat → Int) (L : List Tok) : (flat z L).length = L.length * 3 := by
  unfold flat
  induction L with
  | nil => rfl
  | cons t L ih => rw [List.flatMap_cons, List.length_append, ih, List.length_cons]; simp [tok3]; omega
theorem flat_snoc (z : Nat → Int) (L : List Tok) (t : Tok) : flat z (L ++ [t]) = flat z L ++ tok3 z t := by simp [flat]

theorem blank_at (c : Int) (h0 : 0 ≤ c) (h1 : c ≤ 255) : isBlank c = decide (0 ≤ Lib.indexByte [9, 10, 13, 32] c.toNat.toUInt8) := by
  obtain ⟨m, rfl⟩ : ∃ m : Nat, c = m := ⟨c.toNat, by omega⟩
  have hm : m < 256 := by omega
  have : ∀ m : Fin 256, isBlank ((m.val : Nat) : Int) = decide (0 ≤ Lib.indexByte [9, 10, 13, 32] ((m.val : Nat) : Int).toNat.toUInt8) := by decide +kernel
  exact this ⟨m, hm⟩
theorem mark_at (c : Int) (h0 : 0 ≤ c) (h1 : c ≤ 255) : isMark c = decide (0 ≤ Lib.indexByte [40, 41, 123, 125, 91, 93, 44, 59, 61, 43, 45, 42, 47, 37, 60, 33, 38, 124] c.toNat.toUInt8) := by
  obtain ⟨m, rfl⟩ : ∃ m : Nat, c = m := ⟨c.toNat, by omega⟩
  have hm : m < 256 := by omega
  have : ∀ m : Fin 256, isMark ((m.val : Nat) : Int) = decide (0 ≤ Lib.indexByte [40, 41, 123, 125, 91, 93, 44, 59, 61, 43, 45, 42, 47, 37, 60, 33, 38, 124] ((m.val : Nat) : Int).toNat.toUInt8) := by decide +kernel
  exact this ⟨m, hm⟩

theorem own_heap {w w' : World} {base : Nat} {e : TypeId} {size n : Nat} {v : Value} {xs : List Value} (h : w.ownsRow base e size v n xs) (hk : ∀ g, v.ownBlock = some g → w'.heap[g]? = w.heap[g]?) : w'.ownsRow base e size v n xs := by
  refine ⟨h.1, ?_⟩
  rcases h.2 with h2 | ⟨g, cap, cur, rfl, hg, hh, r⟩
  · exact .inl h2
  · exact .inr ⟨g, cap, cur, rfl, hg, (hk g (by simp [Value.ownBlock])).trans hh, r⟩

/-- The text of bytes that came in. -/
theorem conv_any (a : Option Addr) (n cap : Nat) (z : Nat → Int) (w : World) (hr : Row w a n (fun i => .int .u8 (z i))) (hz : ∀ j, j < n → 0 ≤ z j ∧ z j ≤ 255) :
    (convert 22 9 (.slice a n cap)).run Try.prog w = .ok (.string (sub z 0 n)) w := by
  by_cases h0 : n = 0
  · subst h0
    rcases a with _ | ad
    · exact run_convert_bytes_nil w 22 5 Try.underlying22 Try.underlying5 0 cap 9 Try.underlying9
    · exact run_convert_bytes_back w 22 9 5 ad cap [] Try.underlying22 Try.underlying5 Try.underlying9 (fun j hj => by simp at hj)
  · obtain ⟨b, off, rfl, _⟩ := hr 0 (by omega)
    have := run_convert_bytes_arg (P := Try.prog) w 22 5 Try.underlying22 Try.underlying5 b off n cap ((List.range n).map fun j => z (0 + j)) (by simp) (fun i hi => by
      obtain ⟨b', off', e, hc⟩ := hr i hi
      injection e with e
      injection e with e1 e2
      subst e1 e2
      rw [hc]
      simp [hi]) 9 Try.underlying9
    exact this

theorem info32 : ∃ i z, Try.prog.info? 32 = some i ∧ i.zero = some z ∧ i.size = 3 ∧ i.bytes = 32 ∧ z.cells.size = 3 := by
  have h : (Try.prog.info? 32).map (fun i => (i.zero.map (·.cells.size), i.size, i.bytes)) = some (some 3, 3, 32) := by kernel_rfl
  cases hi : Try.prog.info? 32 with
  | none => rw [hi] at h; cases h
  | some i =>
    rw [hi] at h
    simp only [Option.map_some, Option.some.injEq, Prod.mk.injEq] at h
    obtain ⟨h1, h2, h3⟩ := h
    cases hz : i.zero with
    | none => rw [hz] at h1; cases h1
    | some z =>
      rw [hz] at h1
      exact ⟨i, z, rfl, hz, h2, h3, by simpa using h1⟩

theorem tok_cells {w : World} {g : Nat} {z : Nat → Int} (t : Tok) {S : ByteArray} (h : Blk w g 32 #[.int .i64 t.kind, .string S, .int .i64 t.at_]) (hS : S = sub z t.at_ t.size) :
    ∀ ad, some (⟨g, 0, none⟩ : Addr) = some ad → ∀ j u, (tok3 z t)[j]? = some u → w.cell? (ad.add j) = some u := by
  subst hS
  intro ad e j u hu
  injection e with e
  subst e
  have : (Addr.mk g 0 none).add j = ⟨g, j, none⟩ := by unfold Addr.add; split <;> simp_all
  rw [this, h.cell j]
  simpa [tok3] using hu
theorem tok_one (z : Nat → Int) (t : Tok) : ∀ u ∈ tok3 z t, u.oneCell' = true := by
  intro u hu
  simp only [tok3, List.mem_cons, List.not_mem_nil, or_false] at hu
  rcases hu with rfl | rfl | rfl <;> rfl
theorem sub_ext (z : Nat → Int) (n k r : Nat) (h : k + r ≤ n) : (sub z 0 n).extract k (k + r) = sub z k r := by
  apply ByteArray.ext
  rw [ByteArray.data_extract]
  apply Array.ext
  · simp [sub, strOfNums]; omega
  · intro i h1 h2
    simp [sub, strOfNums]
theorem pre_at (z : Nat → Int) (n k : Nat) (hk : k < n) (hz : ∀ j, j < n → 0 ≤ z j ∧ z j ≤ 255) : Lib.hasPrefix ((sub z 0 n).extract k n).data.toList [61, 61] = decide (k + 1 < n ∧ z k = 61 ∧ z (k + 1) = 61) := by
  have e : (sub z 0 n).extract k n = sub z k (n - k) := by
    have := sub_ext z n k (n - k) (by omega)
    rwa [show k + (n - k) = n from by omega] at this
  rw [e]
  have h61 : ∀ c : Int, 0 ≤ c → c ≤ 255 → ((61 : UInt8) == UInt8.ofNat c.toNat) = decide (c = 61) := by
    intro c h0 h1
    obtain ⟨m, rfl⟩ : ∃ m : Nat, c = m := ⟨c.toNat, by omega⟩
    have : ∀ m : Fin 256, ((61 : UInt8) == UInt8.ofNat ((m.val : Nat) : Int).toNat) = decide (((m.val : Nat) : Int) = 61) := by decide +kernel
    exact this ⟨m, by omega⟩
  obtain ⟨m, hm⟩ : ∃ m, n - k = m + 1 := ⟨n - k - 1, by omega⟩
  rw [hm]
  have h0 := hz k hk
  unfold sub
  rw [strOfNums_data]
  rcases m with _ | m
  · have hn : ¬ k + 1 < n := by omega
    simp [Lib.hasPrefix, hn, List.isPrefixOf]
  · have h1 := hz (k + 1) (by omega)
    have hn : k + 1 < n := by omega
    rw [List.range_succ_eq_map, List.range_succ_eq_map]
    simp only [Lib.hasPrefix, List.map_cons, List.isPrefixOf, Nat.add_zero, Bool.and_true]
    rw [h61 _ h0.1 h0.2, h61 _ h1.1 h1.2]
    simp [hn]
theorem own_some {w : World} {base : Nat} {e : TypeId} {size n : Nat} {v : Value} {xs : List Value} (h : w.ownsRow base e size v n xs) (hne : xs ≠ []) :
    ∃ g cap cs, v = .slice (some ⟨g, 0, none⟩) n cap ∧ base ≤ g ∧ Blk w g e cs ∧ cs.size = cap * size ∧ n ≤ cap ∧ ∀ j, j < n * size → cs[j]? = xs[j]? := by
  refine own_form h fun hv => ?_
  rcases h.2 with ⟨_, h2⟩ | ⟨g, cap, cur, h1, _⟩
  · have := h.1
    rw [h2] at this
    exact hne (by first | exact List.eq_nil_of_length_eq_zero (by simpa using this) | exact h2)
  · rw [hv] at h1; cases h1

/-- What Lex answers. -/
def Told (w w' : World) (n : Nat) (z : Nat → Int) (l : List Tok) : Option Nat → Ending → Prop
  | some p, e => e = .returned (.tuple #[.slice none 0 0, .int .i64 p, .int .i64 2])
  | none, e => ∃ g cap cs, e = .returned (.tuple #[.slice (some ⟨g, 0, none⟩) (l.length + 1) cap, .int .i64 0, .int .i64 0]) ∧ w.heap.size ≤ g ∧ Blk w' g 32 cs ∧ l.length + 1 ≤ cap ∧ ∀ j, j < (l.length + 1) * 3 → cs[j]? = (flat z (l ++ [⟨4, n, 0⟩]))[j]?

set_option maxRecDepth 100000 in
set_option maxHeartbeats 4000000 in
theorem lex_any (a : Option Addr) (n cap : Nat) (z : Nat → Int) (w : World) (hr : Row w a n (fun i => .int .u8 (z i))) (hz : ∀ j, j < n → 0 ≤ z j ∧ z j ≤ 255) (hn : n ≤ 65536) :
    Calls Try.prog 11 #[.slice a n cap] w fun e w' => (∃ l r, Lexes n z 0 l r ∧ Told w w' n z l r e) ∧ Below w.heap.size w w' := by
  have hs := sub_size z 0 n
  have hcv := conv_any a n cap z w hr hz
  have HZ := hid hz
  obtain ⟨i32, z32, hi32, hz32, hs32, hb32, hc32⟩ := info32
  have hu32 := Try.underlying32
  clear hz hr
  go_enter Try.func11, Try.ntmps11
  go_wp2_with fail
  go_step3
  go_wp2_with fail
  try go_step3
  go_wp2_with fail
  go_loopw [6, 7] (fun lv i wr => ∃ (k : Nat) (L : List Tok), k ≤ n ∧ i = .int .i64 k ∧ wr.ownsRow w.heap.size 32 3 lv L.length (flat z L) ∧ L.length ≤ k ∧ Hid (∀ l r, Lexes n z k l r → Lexes n z 0 (L ++ l) r) ∧ Below w.heap.size w wr)
    (fun _ i _ => n - (intOf i).toNat)
  case atStart => exact ⟨0, [], Nat.zero_le _, rfl, World.ownsRow_nil _ _ _ _, by simp, fun l r h => h, Below.refl _ _⟩
  case round =>
    obtain ⟨k, L, hk, rfl, hown, hL, hlex, hb⟩ := hrel
    by_cases hlt : k < n
    · obtain ⟨hz0, hz1⟩ := HZ.out k hlt
      have hbt := sub_at z n k (by rw [hs]; exact hlt) ⟨hz0, hz1⟩
      go_wp2_with fail
      have hbl := blank_at (z k) hz0 hz1
      have hmk := mark_at (z k) hz0 hz1
      have hne : ((k : Int) == (n : Int)) = false := by simp; omega
      have hB1 := Blk.new wr 32 #[Value.int IntKind.i64 3, Value.string { data := #[] }, Value.int IntKind.i64 (k : Int)]
      have hown1 := hown.alloc (Obj.cells #[Value.int IntKind.i64 3, Value.string { data := #[] }, Value.int IntKind.i64 (k : Int)] 32)
      have hb1 := hb.alloc hb.size (Obj.cells #[Value.int IntKind.i64 3, Value.string { data := #[] }, Value.int IntKind.i64 (k : Int)] 32)
      have hgw : w.heap.size ≤ wr.heap.size := hb.size
      have hold := hid fun g hg => (hown.lt g hg).2
      clear hown hb
      generalize hw1 : wr.alloc (Obj.cells #[Value.int IntKind.i64 3, Value.string { data := #[] }, Value.int IntKind.i64 (k : Int)] 32) = w1 at hB1 hown1 hb1 ⊢
      clear hw1
      generalize wr.heap.size = gt at hB1 hgw hold ⊢
      obtain ⟨I, hI⟩ : ∃ I, Lib.indexByte [9, 10, 13, 32] (z k).toNat.toUInt8 = I := ⟨_, rfl⟩
      refine (Try.strings_IndexByte _ _ _).mono ?_
      rintro e w2 ⟨rfl, rfl⟩
      rw [show ((⟨#[9, 10, 13, 32]⟩ : ByteArray).data.toList) = [9, 10, 13, 32] from rfl, hI]
      rw [hI] at hbl
      have HBL := hid hbl
      clear hbl hI
      by_cases hI0 : 0 ≤ I
      · have hblank : isBlank (z k) = true := by rw [HBL.out]; simp [hI0]
        have HB := hid hblank
        clear hblank
        go_wp2_with fail
        go_roundw
        case rel => exact ⟨k + 1, L, by omega, by go_num, hown1, by omega, fun l r h => hlex.out _ _ (.blank k l r hlt HB.out h), hb1⟩
        case measure => simp [intOf]; omega
      · have hnb : isBlank (z k) = false := by rw [HBL.out]; simp [hI0]
        have HNB := hid hnb
        clear hnb HBL
        have hI1 : I < 0 := by omega
        by_cases h35 : z k = 35
        · have h35b : (z k == 35) = true := by simp [h35]
          go_wp2_with fail
          refine (run15_any n z k _ (by omega) hk HZ.out).mono ?_
          rintro e w3 ⟨⟨r, hrun, rfl⟩, rfl⟩
          have hfit := hrun.fit
          have hpos := hrun.pos hlt (by rw [h35]; rfl)
          have HR := hid hrun
          clear hrun
          go_wp2_with fail
          go_roundw
          case rel => exact ⟨k + r, L, hfit, by simp, hown1, by omega, fun l r' h => hlex.out _ _ (.note k r l r' hlt h35 HR.out h), hb1⟩
          case measure => simp [intOf]; omega
        · have h35b : (z k == 35) = false := by simp [h35]
          go_wp2_with fail
          refine (letter_any (z k) hz0 hz1 _).mono ?_
          rintro e w3 ⟨rfl, rfl⟩
          by_cases hle : isLetter (z k) = true
          · rw [hle]
            have HLE := hid hle
            clear hle
            go_wp2_with fail
            refine (run17_any n z k _ (by omega) hk HZ.out).mono ?_
            rintro e w4 ⟨⟨r, hrun, rfl⟩, rfl⟩
            have hfit := hrun.fit
            have hpos := hrun.pos hlt (by unfold isInner; rw [HLE.out]; rfl)
            have HR := hid hrun
            clear hrun
            have e0 := hB1.cell 0
            have e0f := hB1.fz 0
            by_cases h32 : r ≤ 32
            · have hext : (sub z 0 n).extract k (k + r) = sub z k r := sub_ext z n k r hfit
              have hB3 : Blk (w4.setCell ⟨gt, 0, none⟩ (.int .i64 1)) gt 32 #[.int .i64 1, .string { data := #[] }, .int .i64 (k : Int)] := hB1.set 0 _
              have e1 := hB3.cell 1
              have e1f := hB3.fz 1
              have hB4 : Blk ((w4.setCell ⟨gt, 0, none⟩ (.int .i64 1)).setCell ⟨gt, 1, none⟩ (.string (sub z k r))) gt 32 #[Value.int IntKind.i64 1, Value.string (sub z k r), Value.int IntKind.i64 (k : Int)] := hB3.set 1 _
              have e20 := hB4.cell 0
              have e21 := hB4.cell 1
              have e22 := hB4.cell 2
              have hown4 : ((w4.setCell ⟨gt, 0, none⟩ (.int .i64 1)).setCell ⟨gt, 1, none⟩ (.string (sub z k r))).ownsRow w.heap.size 32 3 u6 L.length (flat z L) := own_heap hown1 (fun g hg => (Below.heap_setCell _ _ _ g (fun e : g = gt => by have := hold.out g hg; omega)).trans (Below.heap_setCell _ _ _ g (fun e : g = gt => by have := hold.out g hg; omega)))
              have hown5 := hown4.alloc (Obj.cells #[Value.int IntKind.i64 1, Value.string (sub z k r), Value.int IntKind.i64 (k : Int)] 32)
              have hs5 : ((w4.setCell ⟨gt, 0, none⟩ (.int .i64 1)).setCell ⟨gt, 1, none⟩ (.string (sub z k r))).heap.size = w4.heap.size := by simp
              have hb5 := ((hb1.setCell hgw _).setCell hgw _).alloc (by rw [hs5]; exact hb1.size) (Obj.cells #[Value.int IntKind.i64 1, Value.string (sub z k r), Value.int IntKind.i64 (k : Int)] 32)
              have hsrc : Hid _ := hid (tok_cells (z := z) ⟨1, k, r⟩ (hs5 ▸ Blk.new ((w4.setCell ⟨gt, 0, none⟩ (.int .i64 1)).setCell ⟨gt, 1, none⟩ (.string (sub z k r))) 32 #[Value.int IntKind.i64 1, Value.string (sub z k r), Value.int IntKind.i64 (k : Int)]) rfl)
              have h63 : L.length + 1 ≤ maxLen := by unfold maxLen; omega
              go_wp2_with (at_builtin
                           refine wpList_onto rfl (.tmp 95) (.tmp 97) 24 rfl w.heap.size 32 i32 z32 3 32 Try.underlying24 hi32 hz32 hs32 hb32 hc32 (by omega) u6 L.length (flat z L) rfl hown5 (some ⟨w4.heap.size, 0, none⟩) 1 1 (tok3 z ⟨1, k, r⟩) rfl rfl hsrc.out (fun e => by cases e) (tok_one z _) h63 (by omega) hb5.size ?_
                           intro v6 w6 hown6 hg6 hform6 hat6)
              go_roundw
              case rel => exact ⟨k + r, L ++ [⟨1, k, r⟩], hfit, by simp, (by rw [flat_snoc, List.length_append]; exact hown6), (by rw [List.length_append]; simp; omega), (fun l r' h => by have := hlex.out _ _ (.word k r l r' hlt HLE.out HR.out h32 h); rw [List.append_assoc]; exact this), hb5.grown hg6 hb5.size (fun g hg => (hown5.lt g hg).1)⟩
              case measure => simp [intOf]; omega
            · have h32' : 32 < r := by omega
              go_wp2_with fail
              rw [Exit.noGoto_ret]
              go_ret3
              exact ⟨⟨L, some k, by have := hlex.out [] (some k) (.long k r hlt HLE.out HR.out h32'); rwa [List.append_nil] at this, rfl⟩, hb1.setCell hgw _⟩
          · have hle' : isLetter (z k) = false := by simpa using hle
            rw [hle']
            have HLE := hid hle'
            clear hle hle'
            go_wp2_with fail
            refine (digit_any (z k) _).mono ?_
            rintro e w4 ⟨rfl, rfl⟩
            by_cases hdi : isDigit (z k) = true
            · rw [hdi]
              have HDI := hid hdi
              clear hdi
              go_wp2_with fail
              refine (run18_any n z k _ (by omega) hk HZ.out).mono ?_
              rintro e w5 ⟨⟨r, hrun, rfl⟩, rfl⟩
              have hfit := hrun.fit
              have hpos := hrun.pos hlt HDI.out
              have HR := hid hrun
              clear hrun
              have e0 := hB1.cell 0
              have e0f := hB1.fz 0
              by_cases hend : k + r < n
              · obtain ⟨hy0, hy1⟩ := HZ.out (k + r) hend
                have hbt2 := sub_at z n (k + r) (by rw [hs]; exact hend) ⟨hy0, hy1⟩
                go_wp2_with fail
                refine (inner_any (z (k + r)) hy0 hy1 _).mono ?_
                rintro e w6 ⟨rfl, hw6⟩
                subst hw6
                by_cases hin : isInner (z (k + r)) = true
                · rw [hin]
                  have HIN := hid hin
                  clear hin
                  go_wp2_with fail
                  rw [Exit.noGoto_ret]
                  go_ret3
                  exact ⟨⟨L, some (k + r), by have := hlex.out [] (some (k + r)) (.ill k r hlt HDI.out HR.out hend HIN.out); rwa [List.append_nil] at this, by simp [Told]⟩, hb1.setCell hgw _⟩
                · have hin' : isInner (z (k + r)) = false := by simpa using hin
                  rw [hin']
                  have HIN := hid hin'
                  clear hin hin'
                  have hext : (sub z 0 n).extract k (k + r) = sub z k r := sub_ext z n k r hfit
                  have hB3 : Blk (w5.setCell ⟨gt, 0, none⟩ (.int .i64 2)) gt 32 #[.int .i64 2, .string { data := #[] }, .int .i64 (k : Int)] := hB1.set 0 _
                  have e1 := hB3.cell 1
                  have e1f := hB3.fz 1
                  have hB4 : Blk ((w5.setCell ⟨gt, 0, none⟩ (.int .i64 2)).setCell ⟨gt, 1, none⟩ (.string (sub z k r))) gt 32 #[Value.int IntKind.i64 2, Value.string (sub z k r), Value.int IntKind.i64 (k : Int)] := hB3.set 1 _
                  have e20 := hB4.cell 0
                  have e21 := hB4.cell 1
                  have e22 := hB4.cell 2
                  have hown4 : ((w5.setCell ⟨gt, 0, none⟩ (.int .i64 2)).setCell ⟨gt, 1, none⟩ (.string (sub z k r))).ownsRow w.heap.size 32 3 u6 L.length (flat z L) := own_heap hown1 (fun g hg => (Below.heap_setCell _ _ _ g (fun e : g = gt => by have := hold.out g hg; omega)).trans (Below.heap_setCell _ _ _ g (fun e : g = gt => by have := hold.out g hg; omega)))
                  have hown5 := hown4.alloc (Obj.cells #[Value.int IntKind.i64 2, Value.string (sub z k r), Value.int IntKind.i64 (k : Int)] 32)
                  have hs5 : ((w5.setCell ⟨gt, 0, none⟩ (.int .i64 2)).setCell ⟨gt, 1, none⟩ (.string (sub z k r))).heap.size = w5.heap.size := by simp
                  have hb5 := ((hb1.setCell hgw _).setCell hgw _).alloc (by rw [hs5]; exact hb1.size) (Obj.cells #[Value.int IntKind.i64 2, Value.string (sub z k r), Value.int IntKind.i64 (k : Int)] 32)
                  have hsrc : Hid _ := hid (tok_cells (z := z) ⟨2, k, r⟩ (hs5 ▸ Blk.new ((w5.setCell ⟨gt, 0, none⟩ (.int .i64 2)).setCell ⟨gt, 1, none⟩ (.string (sub z k r))) 32 #[Value.int IntKind.i64 2, Value.string (sub z k r), Value.int IntKind.i64 (k : Int)]) rfl)
                  have h63 : L.length + 1 ≤ maxLen := by unfold maxLen; omega
                  go_wp2_with (at_builtin
                               refine wpList_onto rfl (.tmp 95) (.tmp 97) 24 rfl w.heap.size 32 i32 z32 3 32 Try.underlying24 hi32 hz32 hs32 hb32 hc32 (by omega) u6 L.length (flat z L) rfl hown5 (some ⟨w5.heap.size, 0, none⟩) 1 1 (tok3 z ⟨2, k, r⟩) rfl rfl hsrc.out (fun e => by cases e) (tok_one z _) h63 (by omega) hb5.size ?_
                               intro v6 w6 hown6 hg6 hform6 hat6)
                  go_roundw
                  case rel => exact ⟨k + r, L ++ [⟨2, k, r⟩], hfit, by simp, (by rw [flat_snoc, List.length_append]; exact hown6), (by rw [List.length_append]; simp; omega), (fun l r' h => by have := hlex.out _ _ (.num k r l r' hlt HDI.out HR.out (fun _ => HIN.out) h); rw [List.append_assoc]; exact this), hb5.grown hg6 hb5.size (fun g hg => (hown5.lt g hg).1)⟩
                  case measure => simp [intOf]; omega

              · have hext : (sub z 0 n).extract k (k + r) = sub z k r := sub_ext z n k r hfit
                have hB3 : Blk (w5.setCell ⟨gt, 0, none⟩ (.int .i64 2)) gt 32 #[.int .i64 2, .string { data := #[] }, .int .i64 (k : Int)] := hB1.set 0 _
                have e1 := hB3.cell 1
                have e1f := hB3.fz 1
                have hB4 : Blk ((w5.setCell ⟨gt, 0, none⟩ (.int .i64 2)).setCell ⟨gt, 1, none⟩ (.string (sub z k r))) gt 32 #[Value.int IntKind.i64 2, Value.string (sub z k r), Value.int IntKind.i64 (k : Int)] := hB3.set 1 _
                have e20 := hB4.cell 0
                have e21 := hB4.cell 1
                have e22 := hB4.cell 2
                have hown4 : ((w5.setCell ⟨gt, 0, none⟩ (.int .i64 2)).setCell ⟨gt, 1, none⟩ (.string (sub z k r))).ownsRow w.heap.size 32 3 u6 L.length (flat z L) := own_heap hown1 (fun g hg => (Below.heap_setCell _ _ _ g (fun e : g = gt => by have := hold.out g hg; omega)).trans (Below.heap_setCell _ _ _ g (fun e : g = gt => by have := hold.out g hg; omega)))
                have hown5 := hown4.alloc (Obj.cells #[Value.int IntKind.i64 2, Value.string (sub z k r), Value.int IntKind.i64 (k : Int)] 32)
                have hs5 : ((w5.setCell ⟨gt, 0, none⟩ (.int .i64 2)).setCell ⟨gt, 1, none⟩ (.string (sub z k r))).heap.size = w5.heap.size := by simp
                have hb5 := ((hb1.setCell hgw _).setCell hgw _).alloc (by rw [hs5]; exact hb1.size) (Obj.cells #[Value.int IntKind.i64 2, Value.string (sub z k r), Value.int IntKind.i64 (k : Int)] 32)
                have hsrc : Hid _ := hid (tok_cells (z := z) ⟨2, k, r⟩ (hs5 ▸ Blk.new ((w5.setCell ⟨gt, 0, none⟩ (.int .i64 2)).setCell ⟨gt, 1, none⟩ (.string (sub z k r))) 32 #[Value.int IntKind.i64 2, Value.string (sub z k r), Value.int IntKind.i64 (k : Int)]) rfl)
                have h63 : L.length + 1 ≤ maxLen := by unfold maxLen; omega
                go_wp2_with (at_builtin
                             refine wpList_onto rfl (.tmp 95) (.tmp 97) 24 rfl w.heap.size 32 i32 z32 3 32 Try.underlying24 hi32 hz32 hs32 hb32 hc32 (by omega) u6 L.length (flat z L) rfl hown5 (some ⟨w5.heap.size, 0, none⟩) 1 1 (tok3 z ⟨2, k, r⟩) rfl rfl hsrc.out (fun e => by cases e) (tok_one z _) h63 (by omega) hb5.size ?_
                             intro v6 w6 hown6 hg6 hform6 hat6)
                go_roundw
                case rel => exact ⟨k + r, L ++ [⟨2, k, r⟩], hfit, by simp, (by rw [flat_snoc, List.length_append]; exact hown6), (by rw [List.length_append]; simp; omega), (fun l r' h => by have := hlex.out _ _ (.num k r l r' hlt HDI.out HR.out (fun h => absurd h hend) h); rw [List.append_assoc]; exact this), hb5.grown hg6 hb5.size (fun g hg => (hown5.lt g hg).1)⟩
                case measure => simp [intOf]; omega

            · have hdi' : isDigit (z k) = false := by simpa using hdi
              rw [hdi']
              have HDI := hid hdi'
              clear hdi hdi'
              have hpre := hid (pre_at z n k hlt (fun j hj => HZ.out j hj))
              go_wp2_with fail
              refine (Try.strings_HasPrefix _ _ _).mono ?_
              rintro e w5 ⟨rfl, rfl⟩
              rw [show ((⟨#[61, 61]⟩ : ByteArray).data.toList) = [61, 61] from rfl, hpre.out]
              by_cases heq : k + 1 < n ∧ z k = 61 ∧ z (k + 1) = 61
              · rw [decide_eq_true heq]
                have HEQ := hid heq
                have hfit : k + 2 ≤ n := by omega
                clear heq
                have hext : (sub z 0 n).extract k (k + 2) = sub z k 2 := sub_ext z n k 2 hfit
                have hB3 : Blk w5 gt 32 #[.int .i64 3, .string { data := #[] }, .int .i64 (k : Int)] := hB1
                have e1 := hB3.cell 1
                have e1f := hB3.fz 1
                have hB4 : Blk (w5.setCell ⟨gt, 1, none⟩ (.string (sub z k 2))) gt 32 #[Value.int IntKind.i64 3, Value.string (sub z k 2), Value.int IntKind.i64 (k : Int)] := hB3.set 1 _
                have e20 := hB4.cell 0
                have e21 := hB4.cell 1
                have e22 := hB4.cell 2
                have hown4 : (w5.setCell ⟨gt, 1, none⟩ (.string (sub z k 2))).ownsRow w.heap.size 32 3 u6 L.length (flat z L) := own_heap hown1 (fun g hg => (Below.heap_setCell _ _ _ g (fun e : g = gt => by have := hold.out g hg; omega)))
                have hown5 := hown4.alloc (Obj.cells #[Value.int IntKind.i64 3, Value.string (sub z k 2), Value.int IntKind.i64 (k : Int)] 32)
                have hs5 : (w5.setCell ⟨gt, 1, none⟩ (.string (sub z k 2))).heap.size = w5.heap.size := by simp
                have hb5 := (hb1.setCell hgw _).alloc (by rw [hs5]; exact hb1.size) (Obj.cells #[Value.int IntKind.i64 3, Value.string (sub z k 2), Value.int IntKind.i64 (k : Int)] 32)
                have hsrc : Hid _ := hid (tok_cells (z := z) ⟨3, k, 2⟩ (hs5 ▸ Blk.new (w5.setCell ⟨gt, 1, none⟩ (.string (sub z k 2))) 32 #[Value.int IntKind.i64 3, Value.string (sub z k 2), Value.int IntKind.i64 (k : Int)]) rfl)
                have h63 : L.length + 1 ≤ maxLen := by unfold maxLen; omega
                go_wp2_with (at_builtin
                             refine wpList_onto rfl (.tmp 95) (.tmp 97) 24 rfl w.heap.size 32 i32 z32 3 32 Try.underlying24 hi32 hz32 hs32 hb32 hc32 (by omega) u6 L.length (flat z L) rfl hown5 (some ⟨w5.heap.size, 0, none⟩) 1 1 (tok3 z ⟨3, k, 2⟩) rfl rfl hsrc.out (fun e => by cases e) (tok_one z _) h63 (by omega) hb5.size ?_
                             intro v6 w6 hown6 hg6 hform6 hat6)
                go_roundw
                case rel => exact ⟨k + 2, L ++ [⟨3, k, 2⟩], hfit, by simp, (by rw [flat_snoc, List.length_append]; exact hown6), (by rw [List.length_append]; simp; omega), (fun l r' h => by have := hlex.out _ _ (.same k l r' HEQ.out.1 HEQ.out.2.1 HEQ.out.2.2 h); rw [List.append_assoc]; exact this), hb5.grown hg6 hb5.size (fun g hg => (hown5.lt g hg).1)⟩
                case measure => simp [intOf]; omega

              · rw [decide_eq_false heq]
                have HEQ := hid heq
                clear heq
                have hfit : k + 1 ≤ n := by omega
                go_wp2_with fail
                refine (Try.strings_IndexByte _ _ _).mono ?_
                rintro e w6 ⟨rfl, rfl⟩
                obtain ⟨J, hJ⟩ : ∃ I, Lib.indexByte [40, 41, 123, 125, 91, 93, 44, 59, 61, 43, 45, 42, 47, 37, 60, 33, 38, 124] (z k).toNat.toUInt8 = I := ⟨_, rfl⟩
                rw [show ((⟨#[40, 41, 123, 125, 91, 93, 44, 59, 61, 43, 45, 42, 47, 37, 60, 33, 38, 124]⟩ : ByteArray).data.toList) = [40, 41, 123, 125, 91, 93, 44, 59, 61, 43, 45, 42, 47, 37, 60, 33, 38, 124] from rfl, hJ]
                rw [hJ] at hmk
                have HMK := hid hmk
                clear hmk hJ
                by_cases hJ0 : 0 ≤ J
                · have hmark : isMark (z k) = true := by rw [HMK.out]; simp [hJ0]
                  have HM := hid hmark
                  clear hmark
                  have hext : (sub z 0 n).extract k (k + 1) = sub z k 1 := sub_ext z n k 1 hfit
                  have hB3 : Blk w6 gt 32 #[.int .i64 3, .string { data := #[] }, .int .i64 (k : Int)] := hB1
                  have e1 := hB3.cell 1
                  have e1f := hB3.fz 1
                  have hB4 : Blk (w6.setCell ⟨gt, 1, none⟩ (.string (sub z k 1))) gt 32 #[Value.int IntKind.i64 3, Value.string (sub z k 1), Value.int IntKind.i64 (k : Int)] := hB3.set 1 _
                  have e20 := hB4.cell 0
                  have e21 := hB4.cell 1
                  have e22 := hB4.cell 2
                  have hown4 : (w6.setCell ⟨gt, 1, none⟩ (.string (sub z k 1))).ownsRow w.heap.size 32 3 u6 L.length (flat z L) := own_heap hown1 (fun g hg => (Below.heap_setCell _ _ _ g (fun e : g = gt => by have := hold.out g hg; omega)))
                  have hown5 := hown4.alloc (Obj.cells #[Value.int IntKind.i64 3, Value.string (sub z k 1), Value.int IntKind.i64 (k : Int)] 32)
                  have hs5 : (w6.setCell ⟨gt, 1, none⟩ (.string (sub z k 1))).heap.size = w6.heap.size := by simp
                  have hb5 := (hb1.setCell hgw _).alloc (by rw [hs5]; exact hb1.size) (Obj.cells #[Value.int IntKind.i64 3, Value.string (sub z k 1), Value.int IntKind.i64 (k : Int)] 32)
                  have hsrc : Hid _ := hid (tok_cells (z := z) ⟨3, k, 1⟩ (hs5 ▸ Blk.new (w6.setCell ⟨gt, 1, none⟩ (.string (sub z k 1))) 32 #[Value.int IntKind.i64 3, Value.string (sub z k 1), Value.int IntKind.i64 (k : Int)]) rfl)
                  have h63 : L.length + 1 ≤ maxLen := by unfold maxLen; omega
                  go_wp2_with (at_builtin
                               refine wpList_onto rfl (.tmp 95) (.tmp 97) 24 rfl w.heap.size 32 i32 z32 3 32 Try.underlying24 hi32 hz32 hs32 hb32 hc32 (by omega) u6 L.length (flat z L) rfl hown5 (some ⟨w6.heap.size, 0, none⟩) 1 1 (tok3 z ⟨3, k, 1⟩) rfl rfl hsrc.out (fun e => by cases e) (tok_one z _) h63 (by omega) hb5.size ?_
                               intro v6 w6 hown6 hg6 hform6 hat6)
                  go_roundw
                  case rel => exact ⟨k + 1, L ++ [⟨3, k, 1⟩], hfit, by simp, (by rw [flat_snoc, List.length_append]; exact hown6), (by rw [List.length_append]; simp; omega), (fun l r' h => by have := hlex.out _ _ (.mark k l r' hlt HM.out (fun h => HEQ.out ⟨h.2.1, h.1, h.2.2⟩) h); rw [List.append_assoc]; exact this), hb5.grown hg6 hb5.size (fun g hg => (hown5.lt g hg).1)⟩
                  case measure => simp [intOf]; omega

                · have hmark : isMark (z k) = false := by rw [HMK.out]; simp [hJ0]
                  have HM := hid hmark
                  have hJ1 : J < 0 := by omega
                  clear hmark
                  go_wp2_with fail
                  rw [Exit.noGoto_ret]
                  go_ret3
                  exact ⟨⟨L, some k, by have := hlex.out [] (some k) (.wrong k hlt HNB.out h35 HLE.out HDI.out HM.out); rwa [List.append_nil] at this, rfl⟩, hb1⟩
    · have hkn : k = n := by omega
      subst hkn
      have hown2 := (hown.alloc (Obj.cells #[Value.int IntKind.i64 3, Value.string { data := #[] }, Value.int IntKind.i64 (k : Int)] 32)).alloc (Obj.cells #[Value.int IntKind.i64 4, Value.string { data := #[] }, Value.int IntKind.i64 (k : Int)] 32)
      have hb2 := (hb.alloc hb.size (Obj.cells #[Value.int IntKind.i64 3, Value.string { data := #[] }, Value.int IntKind.i64 (k : Int)] 32)).alloc (by have := hb.size; simp; omega) (Obj.cells #[Value.int IntKind.i64 4, Value.string { data := #[] }, Value.int IntKind.i64 (k : Int)] 32)
      have hsz : (wr.alloc (Obj.cells #[Value.int IntKind.i64 3, Value.string { data := #[] }, Value.int IntKind.i64 (k : Int)] 32)).heap.size = wr.heap.size + 1 := by simp
      have hsrc : Hid _ := hid (tok_cells (z := z) ⟨4, k, 0⟩ (hsz ▸ Blk.new (wr.alloc (Obj.cells #[Value.int IntKind.i64 3, Value.string { data := #[] }, Value.int IntKind.i64 (k : Int)] 32)) 32 #[Value.int IntKind.i64 4, Value.string { data := #[] }, Value.int IntKind.i64 (k : Int)]) rfl)
      have h63 : L.length + 1 ≤ maxLen := by unfold maxLen; omega
      go_wp2_with (at_builtin
                   refine wpList_onto rfl (.tmp 102) (.tmp 105) 24 rfl w.heap.size 32 i32 z32 3 32 Try.underlying24 hi32 hz32 hs32 hb32 hc32 (by omega) u6 L.length (flat z L) rfl hown2 (some ⟨wr.heap.size + 1, 0, none⟩) 1 1 (tok3 z ⟨4, k, 0⟩) rfl rfl hsrc.out (fun e => by cases e) (tok_one z _) h63 (by omega) hb2.size ?_
                   intro v3 w3 hown3 hg3 hform3 hat3)
      rw [Exit.noGoto_ret]
      go_ret3
      rw [← flat_snoc] at hown3
      obtain ⟨g, c3, cs, rfl, hg0, hB, _, hc3, hcs⟩ := own_some hown3 (by rw [flat_snoc]; simp [tok3])
      exact ⟨⟨L, none, by have := hlex.out [] none .stop; rwa [List.append_nil] at this, g, c3, cs, rfl, hg0, hB, hc3, hcs⟩, hb2.grown hg3 (Nat.le_trans hb.size (by simp; omega)) (fun k hk => (hown2.lt k hk).1)⟩
end Go.Proofs.Ytomnomljljkdfaa
