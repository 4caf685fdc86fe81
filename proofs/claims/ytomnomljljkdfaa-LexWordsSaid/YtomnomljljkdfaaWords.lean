/- LexWords: a word is as long as may be, and no longer, proved for any number of letters. Conditions: none. -/
import Derived.Test.YtomnomljljkdfaaGrow
import Derived.Test.YtomnomljljkdfaaMask
import Derived.Deep.RegionHeld3
import Derived.Test.YtomnomljljkdfaaRows
import Derived.ProofKit
import Derived.OpenShut
import Derived.ShutString
import Derived.ChangeOld
import Derived.Deep.Grids
namespace Go.Proofs.Ytomnomljljkdfaa
open Go.RowKit
set_option linter.unusedVariables false

def Wd (k : Nat) (Y : Nat → Int) : Prop := Y 0 = 113 ∧ ∀ j, j < k → isInner (Y j) = true
theorem Wd.start : Wd 1 (fun _ => 113) := ⟨rfl, fun j hj => by rfl⟩
theorem Wd.snoc {k : Nat} {Y : Nat → Int} (h : Wd k Y) (hk : 0 < k) {c : Int} (hc : isInner c = true) : Wd (k + 1) (more Y k c) := by
  refine ⟨?_, fun j hj => ?_⟩
  · unfold more; rw [if_neg (by omega)]; exact h.1
  · unfold more
    split
    · exact hc
    · exact h.2 j (by omega)
theorem inner_u8 {c : Int} (h : isInner c = true) : 0 ≤ c ∧ c ≤ 255 := by
  unfold isInner isLetter isDigit at h
  simp at h
  omega

def wordText (N : Nat) (Y : Nat → Int) : Nat → Int := cat (2 + N) (cat 2 (fun j => [97, 32].getD j 0) Y) (fun j => [32, 98].getD j 0)
theorem wordText_mid (N : Nat) (Y : Nat → Int) (j : Nat) (h : j < N) : wordText N Y (2 + j) = Y j := by
  unfold wordText cat
  rw [if_pos (by omega), if_neg (by omega), show 2 + j - 2 = j from by omega]
theorem wordText_end (N : Nat) (Y : Nat → Int) (j : Nat) : wordText N Y (2 + N + j) = [32, 98].getD j 0 := by
  unfold wordText cat
  rw [if_neg (by omega), show 2 + N + j - (2 + N) = j from by omega]
theorem wordText_head (N : Nat) (Y : Nat → Int) (j : Nat) (h : j < 2) : wordText N Y j = [97, 32].getD j 0 := by
  unfold wordText cat
  rw [if_pos (by omega), if_pos h]
theorem Wd.between {N : Nat} {Y : Nat → Int} (h : Wd N Y) (hN : 0 < N) : Between N (wordText N Y) where
  pos := hN
  y0 := by rw [wordText_head _ _ _ (by omega)]; rfl
  y1 := by rw [wordText_head _ _ _ (by omega)]; rfl
  y2 := by rw [show 2 = 2 + 0 from rfl, wordText_mid _ _ _ hN]; exact h.1
  all := fun j hj => by rw [wordText_mid _ _ _ hj]; exact h.2 j hj
  yN := by rw [show 2 + N = 2 + N + 0 from rfl, wordText_end]; rfl
  yM := by rw [show 3 + N = 2 + N + 1 from by omega, wordText_end]; rfl
theorem Between.u8 {N : Nat} {y : Nat → Int} (h : Between N y) (j : Nat) (hj : j < 2 + N + 2) : 0 ≤ y j ∧ y j ≤ 255 := by
  rcases Nat.lt_or_ge j 2 with h2 | h2
  · rcases Nat.lt_or_ge j 1 with h3 | h3
    · obtain rfl : j = 0 := by omega
      rw [h.y0]; omega
    · obtain rfl : j = 1 := by omega
      rw [h.y1]; omega
  · rcases Nat.lt_or_ge j (2 + N) with h3 | h3
    · have := h.all (j - 2) (by omega)
      rw [show 2 + (j - 2) = j from by omega] at this
      exact inner_u8 this
    · rcases Nat.lt_or_ge j (3 + N) with h4 | h4
      · obtain rfl : j = 2 + N := by omega
        rw [h.yN]; omega
      · obtain rfl : j = 3 + N := by omega
        rw [h.yM]; omega
theorem tab_inner (d : Nat) (h : d < 10) : isInner ((((⟨#[97, 98, 99, 88, 89, 90, 48, 49, 57, 95]⟩ : ByteArray)[d]'h).toNat : Nat) : Int) = true := by
  have : ∀ m : Fin 10, isInner ((((⟨#[97, 98, 99, 88, 89, 90, 48, 49, 57, 95]⟩ : ByteArray)[m.val]'m.isLt).toNat : Nat) : Int) = true := by decide +kernel
  exact this ⟨d, h⟩

set_option maxRecDepth 100000 in
set_option maxHeartbeats 8000000 in
theorem words_walk (a0 a1 : Int) (w : World) (h1 : 0 ≤ a1 ∧ a1 ≤ 255) :
    Calls Try.prog 8 #[.int .i64 a0, .int .u8 a1] w fun e w' => e = .returned (.bool true) ∧ Below w.heap.size w w' := by
  obtain ⟨A, hA, hA6⟩ : ∃ A : Nat, bits .and .i64 a0 65535 = (A : Int) ∧ A < 65536 := ⟨(a0 % 65536).toNat, by rw [mask16]; omega, by omega⟩
  obtain ⟨N, hN, hN0, hN1⟩ : ∃ N : Nat, (A : Int) % 40 = (N : Int) - 1 ∧ 0 < N ∧ N ≤ 40 := ⟨A % 40 + 1, by omega, by omega, by have := Nat.mod_lt A (show 0 < 40 by omega); omega⟩
  obtain ⟨h10, h11⟩ := h1
  obtain ⟨i5, hi5, hz50, hz51, hz52⟩ := info_parts info5
  go_enter Try.func8, Try.ntmps8
  go_wp2_with fail
  refine (shown_any _).mono ?_
  rintro e w1 ⟨rfl, hB⟩
  go_wp2_with fail
  rw [show (1 : Int) + ((N : Int) - 1) = (N : Int) from by omega]
  clear hN
  have hb1 : Below w.heap.size w (w1.alloc (Obj.cells #[Value.int IntKind.u8 113] 5)) := hB.alloc hB.size _
  have hown0 : (w1.alloc (Obj.cells #[Value.int IntKind.u8 113] 5)).ownsRow w.heap.size 5 1 (.slice (some ⟨w1.heap.size, 0, none⟩) 1 1) 1 (bytesV (fun _ => 113) 1) :=
    ⟨rfl, .inr ⟨w1.heap.size, 1, _, rfl, hB.size, heap_alloc_new w1 _, Nat.le_refl _, by unfold maxLen; omega, rfl, rfl⟩⟩
  go_loopw [6, 7] (fun v i wr => ∃ (k : Nat) (Y : Nat → Int), 0 < k ∧ k ≤ N ∧ i = .int .i64 k ∧ wr.ownsRow w.heap.size 5 1 v k (bytesV Y k) ∧ Hid (Wd k Y) ∧ Below w.heap.size w wr)
    (fun _ i _ => N - (intOf i).toNat)
  case atStart => exact ⟨1, _, by omega, by omega, rfl, hown0, hid Wd.start, hb1⟩
  case round =>
    obtain ⟨k, Y, hk0, hk, rfl, hown, hwd, hb⟩ := hrel
    clear hown0 hb1
    by_cases hlt : k < N
    · obtain ⟨d, hd, hd10⟩ : ∃ d : Nat, (a1 + (k : Int)) % 10 = d ∧ d < 10 := ⟨((a1 + (k : Int)) % 10).toNat, by omega, by omega⟩
      have h63 : k + 1 ≤ maxLen := by unfold maxLen; omega
      have hx := tab_inner d hd10
      obtain ⟨x, hxe⟩ : ∃ x : Int, ((((⟨#[97, 98, 99, 88, 89, 90, 48, 49, 57, 95]⟩ : ByteArray)[d]'hd10).toNat : Nat) : Int) = x := ⟨_, rfl⟩
      rw [hxe] at hx
      have HX := hid hx
      clear hx
      have hown1 := hown.alloc (Obj.cells #[Value.int IntKind.u8 x] 5)
      have hb1 := hb.alloc hb.size (Obj.cells #[Value.int IntKind.u8 x] 5)
      have hsr : Hid _ := hid (bytesV_cells (Row.of_blk (m := 1) (f := fun j => .int .u8 ((fun _ => x) j)) (Blk.new wr 5 #[Value.int IntKind.u8 x]) (fun i hi => by obtain rfl : i = 0 := (by omega); rfl)))
      go_wp2_with (at_builtin
                   refine wpList_onto rfl (.tmp 23) (.tmp 30) 22 rfl w.heap.size 5 i5 (.int .u8 0) 1 1 Try.underlying22 hi5 hz50 hz51 hz52 rfl (by omega) u6 k (bytesV Y k) rfl hown1 (some ⟨wr.heap.size, 0, none⟩) 1 1 (bytesV (fun _ => x) 1) rfl rfl hsr.out (fun e => by cases e) (bytesV_one _ _) h63 (by omega) hb1.size ?_
                   intro v6 w6 hown6 hg6 hform6 hat6)
      go_roundw
      case rel => exact ⟨k + 1, more Y k x, by omega, by omega, by go_num, (by rw [← bytesV_snoc]; exact hown6), hid (hwd.out.snoc hk0 HX.out), hb1.grown hg6 hb1.size (fun g hg => (hown1.lt g hg).1)⟩
      case measure => simp [intOf]; omega
    · obtain rfl : N = k := by omega
      obtain ⟨g3, c3, rfl, hc3, hg3, hgl3, hrow3⟩ := own_bytes hown hk0
      have hcv := Lib.run_convert_bytes_const (P := Try.prog) wr 22 5 #[Value.int IntKind.u8 97, Value.int IntKind.u8 32] 2 2 Try.underlying22 Try.underlying5
      have hr0 := hid (bytesV_cells (Row.of_mark wr 5 (2, 3) [97, 32] #[Value.int IntKind.u8 97, Value.int IntKind.u8 32] rfl 2 rfl))
      have HR := hid hrow3
      have HW := hid (bytesV_cells (hrow3.kept ((Below.refl _ _).alloc (Nat.le_refl _) (Obj.cells #[Value.int IntKind.u8 97, Value.int IntKind.u8 32] 5 (2, 3)))))
      clear hrow3 hown
      have h63 : 2 + N ≤ maxLen := by unfold maxLen; omega
      have h64 : 2 + N + (⟨#[32, 98]⟩ : ByteArray).size ≤ maxLen := by show 2 + N + 2 ≤ maxLen; unfold maxLen; omega
      have h65 : 2 + N + (⟨#[32, 98]⟩ : ByteArray).size ≤ 140737488355328 := by show 2 + N + 2 ≤ 140737488355328; omega
      have hsw := hb.size
      have hbl : Below w.heap.size w (wr.alloc (Obj.cells #[Value.int IntKind.u8 97, Value.int IntKind.u8 32] 5 (2, 3))) := hb.alloc hsw _
      go_wp2_with (at_builtin
                   first
                   | (refine wpList_full rfl (.tmp 33) (.tmp 34) 22 rfl w.heap.size 5 i5 (.int .u8 0) 1 1 Try.underlying22 hi5 hz50 hz51 hz52 rfl ⟨wr.heap.size, 0, none⟩ 2 (bytesV (fun j => [97, 32].getD j 0) 2) rfl rfl (hr0.out _ rfl) ⟨g3, 0, none⟩ N c3 (bytesV Y N) rfl (by simp [bytesV_len]) (HW.out _ rfl) hk0 h63 (by omega) hbl.size ?_
                      intro v3 w3 hown3 hg3' hob3
                      have hb3 := hbl.grown hg3' hbl.size (fun k hk => by cases hk))
                   | (refine Lib.wpList_append_own_string w3 rfl (.tmp 35) (.const (.string ⟨#[32, 98]⟩)) 22 9 rfl w.heap.size 5 i5 Try.underlying22 Try.underlying9 hi5 hz50 hz51 hz52 v3 (2 + N) (bytesV (fun j => [97, 32].getD j 0) 2 ++ bytesV Y N) rfl hown3 ⟨#[32, 98]⟩ rfl h64 h65 hb3.size ?_
                      intro v4 w4 hown4 hg4 hnil4
                      have hb4 := hb3.grown hg4 hb3.size (fun g hg => (hown3.lt g hg).1)))
      have hbW : Below wr.heap.size wr w4 := (((Below.refl wr.heap.size wr).alloc (Nat.le_refl _) (Obj.cells #[Value.int IntKind.u8 97, Value.int IntKind.u8 32] 5 (2, 3))).grown hg3' (by simp) (fun k hk => by cases hk)).grown hg4 (by have := hg3'.size; simp at this; omega) (fun k hk => by rw [hob3] at hk; injection hk with hk; simp at hk; omega)
      have hown5 : w4.ownsRow w.heap.size 5 1 v4 (2 + N + 2) (bytesV (wordText N Y) (2 + N + 2)) := by
        have e1 : Lib.strCells ⟨#[32, 98]⟩ = bytesV (fun j => [32, 98].getD j 0) 2 := rfl
        rw [e1, bytesV_cat, bytesV_cat] at hown4
        exact hown4
      have HRW := hid (HR.out.below (Nat.le_refl _) hbW)
      have hbt := hid (hwd.out.between hk0)
      have HE : Hid (sub (wordText N Y) 2 N = sub Y 0 N) := by
        unfold sub
        congr 1
        apply List.map_congr_left
        intro j hj
        rw [wordText_mid _ _ _ (List.mem_range.1 hj), Nat.zero_add]
      obtain ⟨g4, c4, rfl, hc4, hg4b, hgl4, hrow4⟩ := own_bytes hown5 (by omega)
      have HR4 := hid hrow4
      clear hcv hr0 HR HW hown4 hown5 hown3 hg3' hob3 hg4 hnil4 hbl hb3 hb hrow4 h63 h64 h65
      generalize wordText N Y = y at *
      refine (lex_toks (some ⟨g4, 0, none⟩) (2 + N + 2) c4 y w4 HR4.out (fun j hj => hbt.out.u8 j hj) (by omega)).mono ?_
      have hsw4 := hb4.size
      by_cases h32 : N ≤ 32
      · have hsh := hbt.out.short h32
        rw [show N + 4 = 2 + N + 2 from by omega] at hsh
        rintro e w5 ⟨⟨l, g, c, hl, rfl, hg, hc, hT⟩ | ⟨l, p, hl, rfl⟩, hB5⟩
        · obtain rfl := (hl.unique hsh).1
          have hb5 : Below w.heap.size w w5 := hb4.trans (hB5.mono hsw4)
          have hcv2 : ∀ mm, (convert 22 9 (.slice (some ⟨g3, 0, none⟩) N c3)).run Try.prog (w5.drewN mm) = .ok (.string (sub y 2 N)) (w5.drewN mm) := fun mm => by
            rw [HE.out]
            exact conv_any (some ⟨g3, 0, none⟩) N c3 Y (w5.drewN mm) (by exact (HRW.out.kept hB5 : Row w5 _ _ _)) (fun j hj => inner_u8 (hwd.out.2 j hj))
          obtain ⟨x0, x1, _⟩ := hT.at_ (i := 1) (t := ⟨1, 2, N⟩) rfl
          obtain ⟨_, _, x2⟩ := hT.at_ (i := 2) (t := ⟨1, N + 3, 1⟩) rfl
          have y2 : w5.cell? ⟨g, 8, none⟩ = some (.int .i64 ((N : Int) + 3)) := x2
          have y0 : w5.cell? ⟨g, 3, none⟩ = some (.int .i64 1) := x0
          have y1 : w5.cell? ⟨g, 4, none⟩ = some (.string (sub y 2 N)) := x1
          generalize sub y 2 N = S at *
          clear hl hsh hT x0 x1 x2 hB5 hb4 hbW
          have h32' : (N : Int) ≤ 32 := by omega
          go_wp2_with fail
          go_quiet (fail)
          go_wp2_with fail
          go_ret
          exact ⟨rfl, ⟨hb5.os, hb5.tape, hb5.output, hb5.size, hb5.block⟩⟩
        · exact absurd (hl.unique hsh).2 (by simp)
      · have hsh := hbt.out.long (by omega)
        rw [show N + 4 = 2 + N + 2 from by omega] at hsh
        rintro e w5 ⟨⟨l, g, c, hl, rfl, hg, hc, hT⟩ | ⟨l, p, hl, rfl⟩, hB5⟩
        · exact absurd (hl.unique hsh).2 (by simp)
        · obtain rfl : p = 2 := by have := (hl.unique hsh).2; simpa using this
          have hb5 : Below w.heap.size w w5 := hb4.trans (hB5.mono hsw4)
          have h32' : 32 < (N : Int) := by omega
          clear hl hsh hB5 hb4 hbW
          go_wp2_with fail
          go_ret
          exact ⟨rfl, hb5⟩
end Go.Proofs.Ytomnomljljkdfaa

namespace Go.Proofs.Ytomnomljljkdfaa.lexWords
open Go.ChangeShapes Go.WideShapes Go.ChangeAt Go.RowKit
open Go.ChangeMaps (open_string shut_string)
set_option linter.unusedVariables false

theorem own : ownKnob Try.prog.godebug = none := by kernel_rfl
theorem laidOut : laidOutB Try.prog = true := by kernel_rfl

theorem walk (a0 : Int) (a1 : Int) (w : World) (w0 : (Lit.int .i64 a0).wf = true) (w1 : (Lit.int .u8 a1).wf = true) :
    Calls Try.prog 8 #[.int .i64 a0, .int .u8 a1] w fun e w' => e = .returned (.bool true) ∧ Below w.heap.size w w' := by
  exact words_walk a0 a1 w (u8_wf w1)

set_option maxRecDepth 100000 in
theorem lifted (os : Os) (started : os.Started) (H : Type) (enc : TypeId × Value → H) :
    ReturnsInHanded {} Try.checked os 8 .any (Rows.lexWordsSpec.pre6 enc Try.prog Try.f8 Rows.lexWordsRow.domain false) (Rows.lexWordsSpec.post enc Try.prog Try.f8 false true false false) := by
  refine returnsInHanded_of_change (C := Try.checked) own started (by kernel_rfl) Try.func8
    (ChangeSpec.witness6 (enc := enc) (C := Try.checked) false ⟨#[], #[.int .i64 0, .int .u8 0], []⟩ 8 (by kernel_rfl) (by kernel_rfl) (by kernel_rfl) (by kernel_rfl)) ?_
  intro W base args ds gs before hval0 hW hcnd _
  have hval : ∀ (j : Nat) t v, Try.f8.params[j]? = some t → args[j]? = some v → Value.okWide Try.prog W .any base t v := hval0
  have hW' := hW
  obtain ⟨p, q, hA0, hV, rfl, hfz, hnd⟩ := hW
  have hA : DataW.TrodAll enc Try.prog W 0 (fun _ => true) true Try.f8.params.toList args.toList ds p := hA0
  rw [Try.params8] at hA hval
  obtain ⟨v0, vs0, d0, ds0, p0, q0, hargs, rfl, rfl, h0, r0⟩ := trodAll_cons hA
  obtain ⟨v1, vs1, d1, ds1, p1, q1, rfl, rfl, rfl, h1, r1⟩ := trodAll_cons r0
  obtain ⟨rfl, rfl, rfl⟩ := trodAll_nil r1
  obtain rfl : args = #[v0, v1] := by cases args; simp_all
  obtain ⟨rfl, rfl⟩ := trodVars_none hV
  obtain ⟨a0, rfl, rfl, rfl, w0⟩ := open_int Try.underlying3 (hval 0 3 v0 rfl rfl) h0
  obtain ⟨a1, rfl, rfl, rfl, w1⟩ := open_int Try.underlying5 (hval 1 5 v1 rfl rfl) h1
  clear hA0 hval0
  refine (walk a0 a1 W w0 w1).mono fun e W' ⟨he, bel⟩ => ?_
  subst he
  exact ⟨_, rfl, _, _, _, [], _, [], hW', trodAll_mk1 (shut_bool Try.underlying4 _), (trodAll_cons_mk (shut_int Try.underlying3 w0) (trodAll_cons_mk (shut_int Try.underlying5 w1) trodAll_mk0)), rfl, bel.frame _, fun h => by cases h⟩

theorem over : Rows.lexWordsRow.holds Try.pinned (OpenSpec.ofChange Rows.lexWordsSpec) :=
  OpenClaim.holds_of_wide 8 Try.f8 rfl rfl rfl rfl rfl rfl rfl ⟨rfl, rfl, rfl, rfl, rfl⟩ rfl rfl rfl rfl rfl (by kernel_rfl) Try.func8 (by kernel_rfl)
    (of_decide_eq_true (by kernel_rfl)) (by unfold Func.isWrapper; first | (rw [if_pos (by decide +kernel)]; kernel_rfl) | (rw [if_neg (by decide +kernel)]; exact ⟨rfl, rfl⟩))
    (fun os started H enc _ => lifted os started H enc)

theorem proved : Rows.LexWordsSaid := over
#print axioms proved
end Go.Proofs.Ytomnomljljkdfaa.lexWords

