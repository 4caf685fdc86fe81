/- LexBytes: a byte alone is a token, or nothing, or wrong, by what it is, proved for any byte. Conditions: none. -/
import Derived.Test.YtomnomljljkdfaaSingle
import Derived.Deep.RegionHeld3
import Derived.Deep.CutRange
import Derived.BigRegion
import Derived.Test.YtomnomljljkdfaaRows
import Derived.ProofKit
import Derived.OpenShut
import Derived.ShutString
import Derived.ChangeOld
import Derived.Deep.Grids
namespace Go.Proofs.Ytomnomljljkdfaa
open Go.RowKit
set_option linter.unusedVariables false

def marksL : List Int := [40, 41, 123, 125, 91, 93, 44, 59, 61, 43, 45, 42, 47, 37, 60, 33, 38, 124]
def mk (c : Int) (k : Nat) : Bool := decide (c ∈ marksL.take k)
/-- A region that is walked under a stronger condition is walked under a weaker one. -/
theorem wpAnyH_mono {P : Program} {md : Region.Mode} {ops : Array Oper} {Q : Exit → Act → World → Prop} {S S' : World → Prop} (h : ∀ w, S' w → S w) :
    ∀ (fuel : Nat) (listed : Array Bool) (a : Act) (w : World), wpAnyH P md ops Q S' fuel listed a w → wpAnyH P md ops Q S fuel listed a w
  | 0, _, _, _, k => k
  | fuel + 1, _, _, _, k => ⟨k.1, fun i hi => wpOp_mono (fun a' w' h' => ⟨h _ h'.1, wpAnyH_mono h fuel _ a' w' h'.2⟩) (k.2 i hi)⟩
theorem mk_end (c : Int) : mk c 18 = isMark c := rfl
theorem mk_succ (c : Int) (k : Nat) (h : k < 18) : mk c (k + 1) = (mk c k || (marksL.getD k 0 == c)) := by
  unfold mk
  have hl : k < marksL.length := h
  rw [List.take_succ_eq_append_getElem hl, List.getD_eq_getElem?_getD, List.getElem?_eq_getElem hl, Option.getD_some]
  generalize marksL[k] = x
  generalize marksL.take k = L
  by_cases h1 : c ∈ L <;> by_cases h2 : x = c
  · simp [h1]
  · simp [h1]
  · subst h2
    simp
  · have h3 : ¬ c = x := fun e => h2 e.symm
    simp [h1, h2, h3]
theorem mk_byte (k : Nat) (h : k < 18) : ((((⟨#[40, 41, 123, 125, 91, 93, 44, 59, 61, 43, 45, 42, 47, 37, 60, 33, 38, 124]⟩ : ByteArray)[k]'h).toNat : Nat) : Int) = marksL.getD k 0 := by
  have : ∀ m : Fin 18, ((((⟨#[40, 41, 123, 125, 91, 93, 44, 59, 61, 43, 45, 42, 47, 37, 60, 33, 38, 124]⟩ : ByteArray)[m.val]'m.isLt).toNat : Nat) : Int) = marksL.getD m.val 0 := by decide +kernel
  exact this ⟨k, h⟩

set_option maxRecDepth 100000 in
set_option maxHeartbeats 8000000 in
theorem bytes_walk (c : Int) (w : World) (h1 : 0 ≤ c ∧ c ≤ 255) :
    Calls Try.prog 6 #[.int .u8 c] w fun e w' => e = .returned (.bool true) ∧ Below w.heap.size w w' := by
  have H255 := hid h1
  obtain ⟨h10, h11⟩ := h1
  go_enter Try.func6, Try.ntmps6
  go_wp2_with fail
  refine (shown_any _).mono ?_
  rintro e w1 ⟨rfl, hB⟩
  go_upto_region 2 with fail
  go_cut [4] from 22 to 35 (fun v wx => v = .bool (isLetter c) ∧ wx = w1)
  case first =>
    by_cases a1 : 97 ≤ c
    · by_cases a2 : c ≤ 122
      · have hL := hid (show isLetter c = true by simp [isLetter]; omega)
        go_wp2_with fail
        go_meet
        exact ⟨by rw [hL.out], rfl⟩
      · have hL := hid (show isLetter c = false by simp [isLetter]; omega)
        have a3 : 65 ≤ c := by omega
        have a4 : ¬ c ≤ 90 := by omega
        go_wp2_with fail
        go_meet
        exact ⟨by rw [hL.out], rfl⟩
    · by_cases a3 : 65 ≤ c
      · by_cases a4 : c ≤ 90
        · have hL := hid (show isLetter c = true by simp [isLetter]; omega)
          go_wp2_with fail
          go_meet
          exact ⟨by rw [hL.out], rfl⟩
        · have hL := hid (show isLetter c = false by simp [isLetter]; omega)
          go_wp2_with fail
          go_meet
          exact ⟨by rw [hL.out], rfl⟩
      · have hL := hid (show isLetter c = false by simp [isLetter]; omega)
        go_wp2_with fail
        go_meet
        exact ⟨by rw [hL.out], rfl⟩
  case rest =>
  obtain ⟨rfl, rfl⟩ := hcut
  go_upto_region 3 with fail
  go_cut [5] from 36 to 41 (fun v wx => v = .bool (isDigit c) ∧ wx = wc)
  case first =>
    by_cases a1 : 48 ≤ c
    · by_cases a2 : c ≤ 57
      · have hL := hid (show isDigit c = true by simp [isDigit]; omega)
        go_wp2_with fail
        go_meet
        exact ⟨by rw [hL.out], rfl⟩
      · have hL := hid (show isDigit c = false by simp [isDigit]; omega)
        go_wp2_with fail
        go_meet
        exact ⟨by rw [hL.out], rfl⟩
    · have hL := hid (show isDigit c = false by simp [isDigit]; omega)
      go_wp2_with fail
      go_meet
      exact ⟨by rw [hL.out], rfl⟩
  case rest =>
  obtain ⟨rfl, rfl⟩ := hcut
  go_upto_region 4 with fail
  go_cut [6] from 42 to 59 (fun v wx => v = .bool (bl c) ∧ wx = wc)
  case first =>
    by_cases a1 : c = 9 ∨ c = 10 ∨ c = 13 ∨ c = 32 ∨ c = 35
    · rcases a1 with rfl | rfl | rfl | rfl | rfl
      all_goals
        go_wp2_with fail
        go_meet
        exact ⟨rfl, rfl⟩
    · have hL := hid (show bl c = false by simp [bl, isBlank]; omega)
      have e1 : (c == 9) = false := by simp; omega
      have e2 : (c == 10) = false := by simp; omega
      have e3 : (c == 13) = false := by simp; omega
      have e4 : (c == 32) = false := by simp; omega
      have e5 : (c == 35) = false := by simp; omega
      clear a1
      go_wp2_with fail
      go_meet
      exact ⟨by rw [hL.out], rfl⟩
  case rest =>
  obtain ⟨rfl, rfl⟩ := hcut
  go_wp2_with fail
  go_loopw [7, 9] (fun v i wr => ∃ k : Nat, k ≤ 18 ∧ i = .int .i64 k ∧ v = .bool (mk c k) ∧ wr = wc)
    (fun _ i _ => 18 - (intOf i).toNat)
  case atStart => exact ⟨0, by omega, rfl, rfl, rfl⟩
  case round =>
    obtain ⟨k, hk, rfl, rfl, rfl⟩ := hrel
    by_cases hlt : k < 18
    · have hx := mk_byte k hlt
      have hs := mk_succ c k hlt
      generalize marksL.getD k 0 = x at *
      generalize hm : mk c k = m at *
      have HS := hid hs
      have HM := hid hm
      clear hs hm
      cases m
      · go_wp2_with fail
        go_roundw
        case rel => exact ⟨k + 1, by omega, by go_num, by rw [HS.out]; rfl, by trivial⟩
        case measure => simp [intOf]; omega
      · go_wp2_with fail
        go_roundw
        case rel => exact ⟨k + 1, by omega, by go_num, by rw [HS.out]; rfl, by trivial⟩
        case measure => simp [intOf]; omega
    · obtain rfl : k = 18 := by omega
      rw [mk_end]
      have hr1 := Row.of_mark wr 5 (0, 0) [c] #[.int .u8 c] rfl 1 rfl
      have hu8 : ∀ j, j < 1 → 0 ≤ [c].getD j 0 ∧ [c].getD j 0 ≤ 255 := fun j hj => by obtain rfl : j = 0 := (by omega); exact H255.out
      have HR1 := hid hr1
      have HU1 := hid hu8
      have HU2 : Hid (∀ d : Int, 0 ≤ d ∧ d ≤ 255 → ∀ j, j < 2 → 0 ≤ two d c j ∧ two d c j ≤ 255) := hid fun d hd j hj => by
        unfold two
        split
        · exact hd
        · exact H255.out
      have HR2 : Hid (∀ (d : Int) (wx : World), Row (wx.alloc (.cells #[.int .u8 d, .int .u8 c] 5 (0, 0))) (some ⟨wx.heap.size, 0, none⟩) 2 (fun i => .int .u8 (two d c i))) := hid fun d wx i hi => by
        refine ⟨_, 0, rfl, ?_⟩
        rw [World.cell?_alloc_mark wx _ 5 (0, 0) (0 + i)]
        rcases Nat.lt_or_ge i 1 with h | h
        · obtain rfl : i = 0 := by omega
          rfl
        · obtain rfl : i = 1 := by omega
          rfl
      clear hr1 hu8
      rcases cls c with hc | hc | hc | hc | hc | ⟨o1, o2, o3, o4, o5, o6⟩
      · -- letter
        have hL : isLetter c = true := hc
        have hn := letter_not hc
        have hD : isDigit c = false := by simp [isLetter] at hc; simp [isDigit]; omega
        have hB : bl c = false := by unfold bl; rw [hn.1]; simp [hn.2]
        have hM : isMark c = false := by
          cases hm : isMark c
          · rfl
          · rw [(mark_not hm).2.2.1] at hc; cases hc
        have E1 : Lexes 1 (fun i => [c].getD i 0) 0 [⟨1, 0, 1⟩] none := last_letter hc
        have E2 := a_inner c (inner_of_letter hc)
        have E3 := d_ill c (inner_of_letter hc) hD
        rw [hL, hD, hB, hM]
        have X1 := hid E1
        have X2 := hid E2
        have X3 := hid E3
        clear E1 E2 E3 hL hD hB hM hn hc
        go_wp2_with fail
        refine (lex_toks (some ⟨wr.heap.size, 0, none⟩) 1 1 (fun i => [c].getD i 0) _ HR1.out HU1.out (by omega)).mono ?_
        rintro e v1 ⟨⟨l1, g1, c1, hl1, rfl, hg1, hc1, hT1⟩ | ⟨l1, p1, hl1, rfl⟩, hB1⟩
        rotate_left
        · exact absurd (hl1.unique X1.out).2 (by simp)
        obtain rfl := (hl1.unique X1.out).1
        clear hl1
        have hs1 := hB1.size
        go_wp2_with fail
        refine (lex_toks (some ⟨v1.heap.size, 0, none⟩) 2 2 (two 97 c) _ (HR2.out 97 v1) (HU2.out 97 (by omega)) (by omega)).mono ?_
        rintro e v2 ⟨⟨l2, g2, c2, hl2, rfl, hg2, hc2, hT2⟩ | ⟨l2, p2, hl2, rfl⟩, hB2⟩
        rotate_left
        · exact absurd (hl2.unique X2.out).2 (by simp)
        obtain rfl := (hl2.unique X2.out).1
        clear hl2
        have hs2 := hB2.size
        go_wp2_with fail
        refine (lex_toks (some ⟨v2.heap.size, 0, none⟩) 2 2 (two 55 c) _ (HR2.out 55 v2) (HU2.out 55 (by omega)) (by omega)).mono ?_
        rintro e v3 ⟨⟨l3, g3, c3, hl3, rfl, hg3, hc3, hT3⟩ | ⟨l3, p3, hl3, rfl⟩, hB3⟩
        · exact absurd (hl3.unique X3.out).2 (by simp)
        have hp3 : ((p3 : Nat) : Int) = 1 := by have := (hl3.unique X3.out).2; simp at this; omega
        rw [hp3]
        clear hp3
        clear hl3
        have hs3 := hB3.size
        have hw0 := hB.size
        have b1 := (hB.alloc hB.size (.cells #[.int .u8 c] 5)).trans (hB1.mono (by have := hB.size; simp; omega))
        have b2 := (b1.alloc b1.size (.cells #[.int .u8 97, .int .u8 c] 5)).trans (hB2.mono (by have := b1.size; simp; omega))
        have b3 := (b2.alloc b2.size (.cells #[.int .u8 55, .int .u8 c] 5)).trans (hB3.mono (by have := b2.size; simp; omega))
        have hT1b := (hT1.alloc (.cells #[.int .u8 97, .int .u8 c] 5)).below hB2 (hT1.alloc _).lt
        have hT1c := (hT1b.alloc (.cells #[.int .u8 55, .int .u8 c] 5)).below hB3 (hT1b.alloc _).lt
        obtain ⟨y0, y1, _⟩ := hT1c.at_ (i := 0) (t := ⟨1, 0, 1⟩) rfl
        have x0 : v3.cell? ⟨g1, 0, none⟩ = some (.int .i64 1) := y0
        have x1 : v3.cell? ⟨g1, 1, none⟩ = some (.string (sub (fun i => [c].getD i 0) 0 1)) := y1
        have hcv : (convert 22 9 (.slice (some ⟨v3.heap.size, 0, none⟩) 1 1)).run Try.prog (v3.alloc (.cells #[.int .u8 c] 5)).drew = .ok (.string (sub (fun i => [c].getD i 0) 0 1)) (v3.alloc (.cells #[.int .u8 c] 5)).drew := conv_any _ 1 1 (fun i => [c].getD i 0) _ (by exact Row.of_mark v3 5 (0, 0) [c] #[.int .u8 c] rfl 1 rfl) HU1.out
        clear y0 y1 hT1b hT1c hT1
        generalize sub (fun i => [c].getD i 0) 0 1 = S at *
        have HB3 := hid b3
        clear b1 b2 b3 hB hB1 hB2 hB3
        go_wp2_with fail
        have k0 : (v3.alloc (.cells #[.int .u8 c] 5)).cell? ⟨g1, 0, none⟩ = some (.int .i64 1) := (World.cell?_alloc_lt _ _ _ (World.block_lt_of_cell? _ _ x0)).trans x0
        have k1 : (v3.alloc (.cells #[.int .u8 c] 5)).cell? ⟨g1, 1, none⟩ = some (.string S) := (World.cell?_alloc_lt _ _ _ (World.block_lt_of_cell? _ _ x1)).trans x1
        refine wp_region_held_drew (S := fun w' => w'.cell? ⟨g1, 0, none⟩ = some (.int .i64 1) ∧ w'.cell? ⟨g1, 1, none⟩ = some (.string S)) (by kernel_rfl) (by exact ⟨x0, x1⟩) (fun hHeld => ?_)
        refine wpAnyH_take (i := 0) (oi := { dst := some 98, op := Go.Op.move (Go.Operand.tmp 19), type := 3, pos := "more.go:32", after := #[], guard := none }) (v := ?_) rfl (by kernel_rfl) (by kernel_rfl) (by kernel_rfl) (fun _ _ _ h => h) (Or.inl ⟨by rfl, ?_⟩) (by assumption) ?_
        rotate_left
        focus ((intro w hSw; (try dsimp only at hSw); go_simp); try (with_reducible rfl))
        try simp only [Act.put, List.setIfInBounds_toArray, List.set_cons_zero, List.set_cons_succ]
        refine wpAnyH_take (i := 1) (oi := { dst := some 99, op := Go.Op.binOp Go.BinOp.gtr 3 (Go.Operand.tmp 98) (Go.Operand.const (Go.Value.int Go.IntKind.i64 0)) 3, type := 4, pos := "more.go:32", after := #[{ on := 0, ground := Go.Ground.data }], guard := none }) (v := ?_) rfl (by kernel_rfl) (by kernel_rfl) (by kernel_rfl) (fun _ _ _ h => h) (Or.inl ⟨by rfl, ?_⟩) (by assumption) ?_
        rotate_left
        focus ((intro w hSw; (try dsimp only at hSw); go_simp); try (with_reducible rfl))
        try simp only [Act.put, List.setIfInBounds_toArray, List.set_cons_zero, List.set_cons_succ]
        refine wpAnyH_take (i := 2) (oi := { dst := some 100, op := Go.Op.move (Go.Operand.tmp 99), type := 4, pos := "more.go:32", after := #[{ on := 1, ground := Go.Ground.data }], guard := none }) (v := ?_) rfl (by kernel_rfl) (by kernel_rfl) (by kernel_rfl) (fun _ _ _ h => h) (Or.inl ⟨by rfl, ?_⟩) (by assumption) ?_
        rotate_left
        focus ((intro w hSw; (try dsimp only at hSw); go_simp); try (with_reducible rfl))
        try simp only [Act.put, List.setIfInBounds_toArray, List.set_cons_zero, List.set_cons_succ]
        refine wpAnyH_take (i := 3) (oi := { dst := some 101, op := Go.Op.move (Go.Operand.tmp 12), type := 25, pos := "more.go:32", after := #[{ on := 2, ground := Go.Ground.guard }], guard := some (2, true) }) (v := ?_) rfl (by kernel_rfl) (by kernel_rfl) (by kernel_rfl) (fun _ _ _ h => h) (Or.inl ⟨by rfl, ?_⟩) (by assumption) ?_
        rotate_left
        focus ((intro w hSw; (try dsimp only at hSw); go_simp); try (with_reducible rfl))
        try simp only [Act.put, List.setIfInBounds_toArray, List.set_cons_zero, List.set_cons_succ]
        refine wpAnyH_take (i := 4) (oi := { dst := some 102, op := Go.Op.binOp Go.BinOp.neq 25 (Go.Operand.tmp 101) (Go.Operand.const (Go.Value.int Go.IntKind.i64 0)) 25, type := 4, pos := "more.go:32", after := #[{ on := 3, ground := Go.Ground.data }, { on := 2, ground := Go.Ground.guard }], guard := some (2, true) }) (v := ?_) rfl (by kernel_rfl) (by kernel_rfl) (by kernel_rfl) (fun _ _ _ h => h) (Or.inl ⟨by rfl, ?_⟩) (by assumption) ?_
        rotate_left
        focus ((intro w hSw; (try dsimp only at hSw); go_simp); try (with_reducible rfl))
        try simp only [Act.put, List.setIfInBounds_toArray, List.set_cons_zero, List.set_cons_succ]
        refine wpAnyH_take (i := 5) (oi := { dst := some 103, op := Go.Op.move (Go.Operand.tmp 102), type := 4, pos := "more.go:32", after := #[{ on := 4, ground := Go.Ground.data }, { on := 2, ground := Go.Ground.chain }, { on := 2, ground := Go.Ground.guard }], guard := some (2, true) }) (v := ?_) rfl (by kernel_rfl) (by kernel_rfl) (by kernel_rfl) (fun _ _ _ h => h) (Or.inl ⟨by rfl, ?_⟩) (by assumption) ?_
        rotate_left
        focus ((intro w hSw; (try dsimp only at hSw); go_simp); try (with_reducible rfl))
        try simp only [Act.put, List.setIfInBounds_toArray, List.set_cons_zero, List.set_cons_succ]
        refine wpAnyH_take (i := 6) (oi := { dst := some 104, op := Go.Op.move (Go.Operand.tmp 10), type := 24, pos := "more.go:32", after := #[{ on := 5, ground := Go.Ground.guard }], guard := some (5, false) }) (v := ?_) rfl (by kernel_rfl) (by kernel_rfl) (by kernel_rfl) (fun _ _ _ h => h) (Or.inl ⟨by rfl, ?_⟩) (by assumption) ?_
        rotate_left
        focus ((intro w hSw; (try dsimp only at hSw); go_simp); try (with_reducible rfl))
        try simp only [Act.put, List.setIfInBounds_toArray, List.set_cons_zero, List.set_cons_succ]
        refine wpAnyH_take (i := 7) (oi := { dst := some 105, op := Go.Op.call { callee := Go.Callee.builtin Go.Builtin.len, args := #[Go.Operand.tmp 104], argTypes := #[24] }, type := 3, pos := "more.go:32", after := #[{ on := 6, ground := Go.Ground.data }, { on := 5, ground := Go.Ground.guard }], guard := some (5, false) }) (v := ?_) rfl (by kernel_rfl) (by kernel_rfl) (by kernel_rfl) (fun _ _ _ h => h) (Or.inl ⟨by rfl, ?_⟩) (by assumption) ?_
        rotate_left
        focus ((intro w hSw; (try dsimp only at hSw); go_simp); try (with_reducible rfl))
        try simp only [Act.put, List.setIfInBounds_toArray, List.set_cons_zero, List.set_cons_succ]
        refine wpAnyH_take (i := 8) (oi := { dst := some 106, op := Go.Op.binOp Go.BinOp.neq 3 (Go.Operand.tmp 105) (Go.Operand.const (Go.Value.int Go.IntKind.i64 2)) 3, type := 4, pos := "more.go:32", after := #[{ on := 7, ground := Go.Ground.data }, { on := 5, ground := Go.Ground.guard }], guard := some (5, false) }) (v := ?_) rfl (by kernel_rfl) (by kernel_rfl) (by kernel_rfl) (fun _ _ _ h => h) (Or.inl ⟨by rfl, ?_⟩) (by assumption) ?_
        rotate_left
        focus ((intro w hSw; (try dsimp only at hSw); go_simp); try (with_reducible rfl))
        try simp only [Act.put, List.setIfInBounds_toArray, List.set_cons_zero, List.set_cons_succ]
        refine wpAnyH_take (i := 9) (oi := { dst := some 107, op := Go.Op.pick (Go.Operand.tmp 103) (Go.Operand.const (Go.Value.bool true)) (Go.Operand.tmp 106), type := 4, pos := "more.go:32", after := #[{ on := 5, ground := Go.Ground.data }, { on := 8, ground := Go.Ground.data }, { on := 2, ground := Go.Ground.guard }], guard := some (2, true) }) (v := ?_) rfl (by kernel_rfl) (by kernel_rfl) (by kernel_rfl) (fun _ _ _ h => h) (Or.inl ⟨by rfl, ?_⟩) (by assumption) ?_
        rotate_left
        focus ((intro w hSw; (try dsimp only at hSw); go_simp); try (with_reducible rfl))
        try simp only [Act.put, List.setIfInBounds_toArray, List.set_cons_zero, List.set_cons_succ]
        refine wpAnyH_take (i := 10) (oi := { dst := some 108, op := Go.Op.move (Go.Operand.tmp 107), type := 4, pos := "more.go:32", after := #[{ on := 9, ground := Go.Ground.data }, { on := 5, ground := Go.Ground.chain }, { on := 2, ground := Go.Ground.guard }], guard := some (2, true) }) (v := ?_) rfl (by kernel_rfl) (by kernel_rfl) (by kernel_rfl) (fun _ _ _ h => h) (Or.inl ⟨by rfl, ?_⟩) (by assumption) ?_
        rotate_left
        focus ((intro w hSw; (try dsimp only at hSw); go_simp); try (with_reducible rfl))
        try simp only [Act.put, List.setIfInBounds_toArray, List.set_cons_zero, List.set_cons_succ]
        refine wpAnyH_take (i := 11) (oi := { dst := some 109, op := Go.Op.move (Go.Operand.tmp 10), type := 24, pos := "more.go:32", after := #[{ on := 10, ground := Go.Ground.guard }], guard := some (10, false) }) (v := ?_) rfl (by kernel_rfl) (by kernel_rfl) (by kernel_rfl) (fun _ _ _ h => h) (Or.inl ⟨by rfl, ?_⟩) (by assumption) ?_
        rotate_left
        focus ((intro w hSw; (try dsimp only at hSw); go_simp); try (with_reducible rfl))
        try simp only [Act.put, List.setIfInBounds_toArray, List.set_cons_zero, List.set_cons_succ]
        refine wpAnyH_take (i := 12) (oi := { dst := some 110, op := Go.Op.indexAddr 24 (Go.Operand.tmp 109) (Go.Operand.const (Go.Value.int Go.IntKind.i64 0)), type := 0, pos := "more.go:32", after := #[{ on := 11, ground := Go.Ground.data }, { on := 10, ground := Go.Ground.guard }], guard := some (10, false) }) (v := ?_) rfl (by kernel_rfl) (by kernel_rfl) (by kernel_rfl) (fun _ _ _ h => h) (Or.inl ⟨by rfl, ?_⟩) (by assumption) ?_
        rotate_left
        focus ((intro w hSw; (try dsimp only at hSw); go_simp); try (with_reducible rfl))
        try simp only [Act.put, List.setIfInBounds_toArray, List.set_cons_zero, List.set_cons_succ]
        refine wpAnyH_take (i := 13) (oi := { dst := some 111, op := Go.Op.fieldAddr 32 (Go.Operand.tmp 110) 0, type := 0, pos := "more.go:32", after := #[{ on := 12, ground := Go.Ground.data }, { on := 10, ground := Go.Ground.guard }], guard := some (10, false) }) (v := ?_) rfl (by kernel_rfl) (by kernel_rfl) (by kernel_rfl) (fun _ _ _ h => h) (Or.inl ⟨by rfl, ?_⟩) (by assumption) ?_
        rotate_left
        focus ((intro w hSw; (try dsimp only at hSw); go_simp); try (with_reducible rfl))
        try simp only [Act.put, List.setIfInBounds_toArray, List.set_cons_zero, List.set_cons_succ]
        refine wpAnyH_take (i := 14) (oi := { dst := some 112, op := Go.Op.load 3 (Go.Operand.tmp 111), type := 3, pos := "more.go:32", after := #[{ on := 13, ground := Go.Ground.data }, { on := 10, ground := Go.Ground.guard }], guard := some (10, false) }) (v := ?_) rfl (by kernel_rfl) (by kernel_rfl) (by kernel_rfl) (fun _ _ _ h => h) (Or.inl ⟨by rfl, ?_⟩) (by assumption) ?_
        rotate_left
        focus ((intro w hSw; (try dsimp only at hSw); go_simp); try (with_reducible rfl))
        try simp only [Act.put, List.setIfInBounds_toArray, List.set_cons_zero, List.set_cons_succ]
        refine wpAnyH_take (i := 15) (oi := { dst := some 113, op := Go.Op.move (Go.Operand.tmp 19), type := 3, pos := "more.go:32", after := #[{ on := 10, ground := Go.Ground.guard }], guard := some (10, false) }) (v := ?_) rfl (by kernel_rfl) (by kernel_rfl) (by kernel_rfl) (fun _ _ _ h => h) (Or.inl ⟨by rfl, ?_⟩) (by assumption) ?_
        rotate_left
        focus ((intro w hSw; (try dsimp only at hSw); go_simp); try (with_reducible rfl))
        try simp only [Act.put, List.setIfInBounds_toArray, List.set_cons_zero, List.set_cons_succ]
        refine wpAnyH_take (i := 16) (oi := { dst := some 114, op := Go.Op.binOp Go.BinOp.neq 3 (Go.Operand.tmp 112) (Go.Operand.tmp 113) 3, type := 4, pos := "more.go:32", after := #[{ on := 14, ground := Go.Ground.data }, { on := 15, ground := Go.Ground.data }, { on := 10, ground := Go.Ground.guard }], guard := some (10, false) }) (v := ?_) rfl (by kernel_rfl) (by kernel_rfl) (by kernel_rfl) (fun _ _ _ h => h) (Or.inl ⟨by rfl, ?_⟩) (by assumption) ?_
        rotate_left
        focus ((intro w hSw; (try dsimp only at hSw); go_simp); try (with_reducible rfl))
        try simp only [Act.put, List.setIfInBounds_toArray, List.set_cons_zero, List.set_cons_succ]
        refine wpAnyH_take (i := 17) (oi := { dst := some 115, op := Go.Op.pick (Go.Operand.tmp 108) (Go.Operand.const (Go.Value.bool true)) (Go.Operand.tmp 114), type := 4, pos := "more.go:32", after := #[{ on := 10, ground := Go.Ground.data }, { on := 16, ground := Go.Ground.data }, { on := 2, ground := Go.Ground.guard }], guard := some (2, true) }) (v := ?_) rfl (by kernel_rfl) (by kernel_rfl) (by kernel_rfl) (fun _ _ _ h => h) (Or.inl ⟨by rfl, ?_⟩) (by assumption) ?_
        rotate_left
        focus ((intro w hSw; (try dsimp only at hSw); go_simp); try (with_reducible rfl))
        try simp only [Act.put, List.setIfInBounds_toArray, List.set_cons_zero, List.set_cons_succ]
        refine wpAnyH_take (i := 18) (oi := { dst := some 116, op := Go.Op.move (Go.Operand.tmp 115), type := 4, pos := "more.go:32", after := #[{ on := 17, ground := Go.Ground.data }, { on := 10, ground := Go.Ground.chain }, { on := 2, ground := Go.Ground.guard }], guard := some (2, true) }) (v := ?_) rfl (by kernel_rfl) (by kernel_rfl) (by kernel_rfl) (fun _ _ _ h => h) (Or.inl ⟨by rfl, ?_⟩) (by assumption) ?_
        rotate_left
        focus ((intro w hSw; (try dsimp only at hSw); go_simp); try (with_reducible rfl))
        try simp only [Act.put, List.setIfInBounds_toArray, List.set_cons_zero, List.set_cons_succ]
        refine wpAnyH_take (i := 19) (oi := { dst := some 117, op := Go.Op.move (Go.Operand.tmp 10), type := 24, pos := "more.go:32", after := #[{ on := 18, ground := Go.Ground.guard }], guard := some (18, false) }) (v := ?_) rfl (by kernel_rfl) (by kernel_rfl) (by kernel_rfl) (fun _ _ _ h => h) (Or.inl ⟨by rfl, ?_⟩) (by assumption) ?_
        rotate_left
        focus ((intro w hSw; (try dsimp only at hSw); go_simp); try (with_reducible rfl))
        try simp only [Act.put, List.setIfInBounds_toArray, List.set_cons_zero, List.set_cons_succ]
        refine wpAnyH_take (i := 20) (oi := { dst := some 118, op := Go.Op.indexAddr 24 (Go.Operand.tmp 117) (Go.Operand.const (Go.Value.int Go.IntKind.i64 0)), type := 0, pos := "more.go:32", after := #[{ on := 19, ground := Go.Ground.data }, { on := 18, ground := Go.Ground.guard }], guard := some (18, false) }) (v := ?_) rfl (by kernel_rfl) (by kernel_rfl) (by kernel_rfl) (fun _ _ _ h => h) (Or.inl ⟨by rfl, ?_⟩) (by assumption) ?_
        rotate_left
        focus ((intro w hSw; (try dsimp only at hSw); go_simp); try (with_reducible rfl))
        try simp only [Act.put, List.setIfInBounds_toArray, List.set_cons_zero, List.set_cons_succ]
        refine wpAnyH_take (i := 21) (oi := { dst := some 119, op := Go.Op.fieldAddr 32 (Go.Operand.tmp 118) 1, type := 0, pos := "more.go:32", after := #[{ on := 20, ground := Go.Ground.data }, { on := 18, ground := Go.Ground.guard }], guard := some (18, false) }) (v := ?_) rfl (by kernel_rfl) (by kernel_rfl) (by kernel_rfl) (fun _ _ _ h => h) (Or.inl ⟨by rfl, ?_⟩) (by assumption) ?_
        rotate_left
        focus ((intro w hSw; (try dsimp only at hSw); go_simp); try (with_reducible rfl))
        try simp only [Act.put, List.setIfInBounds_toArray, List.set_cons_zero, List.set_cons_succ]
        refine wpAnyH_take (i := 22) (oi := { dst := some 120, op := Go.Op.load 9 (Go.Operand.tmp 119), type := 9, pos := "more.go:32", after := #[{ on := 21, ground := Go.Ground.data }, { on := 18, ground := Go.Ground.guard }], guard := some (18, false) }) (v := ?_) rfl (by kernel_rfl) (by kernel_rfl) (by kernel_rfl) (fun _ _ _ h => h) (Or.inl ⟨by rfl, ?_⟩) (by assumption) ?_
        rotate_left
        focus ((intro w hSw; (try dsimp only at hSw); go_simp); try (with_reducible rfl))
        try simp only [Act.put, List.setIfInBounds_toArray, List.set_cons_zero, List.set_cons_succ]
        refine wpAnyH_take (i := 23) (oi := { dst := some 121, op := Go.Op.move (Go.Operand.tmp 0), type := 5, pos := "more.go:32", after := #[{ on := 18, ground := Go.Ground.guard }], guard := some (18, false) }) (v := ?_) rfl (by kernel_rfl) (by kernel_rfl) (by kernel_rfl) (fun _ _ _ h => h) (Or.inl ⟨by rfl, ?_⟩) (by assumption) ?_
        rotate_left
        focus ((intro w hSw; (try dsimp only at hSw); go_simp); try (with_reducible rfl))
        try simp only [Act.put, List.setIfInBounds_toArray, List.set_cons_zero, List.set_cons_succ]
        refine wpAnyH_ready (rs := [24]) (by kernel_rfl) (by simp) ?_
        refine AllReadyH.cons (o := { dst := some 122, op := Go.Op.buildSlice 22 1 #[(0, Go.Operand.tmp 121)], type := 22, pos := "more.go:32", after := #[{ on := 23, ground := Go.Ground.data }, { on := 18, ground := Go.Ground.guard }], guard := some (18, false) }) rfl (fun K hK => ?_) AllReadyH.nil
        go_simp
        skip
        refine hK.out _ _ ?_ (fun hHeld => ?_)
        · exact ⟨k0, k1⟩
        clear hK K
        try simp only [Act.put, List.setIfInBounds_toArray, List.set_cons_zero, List.set_cons_succ]
        clear hHeld
        refine wpAnyH_mono (S' := fun w' => w'.cell? ⟨g1, 0, none⟩ = some (.int .i64 1) ∧ w'.cell? ⟨g1, 1, none⟩ = some (.string S) ∧ (convert 22 9 (.slice (some ⟨v3.heap.size, 0, none⟩) 1 1)).run Try.prog w' = .ok (.string S) w') (fun w h => ⟨h.1, h.2.1⟩) _ _ _ _ ?_
        have hHeld := (And.intro k0 (And.intro k1 hcv) : (fun w' => w'.cell? ⟨g1, 0, none⟩ = some (.int .i64 1) ∧ w'.cell? ⟨g1, 1, none⟩ = some (.string S) ∧ (convert 22 9 (.slice (some ⟨v3.heap.size, 0, none⟩) 1 1)).run Try.prog w' = .ok (.string S) w') (v3.alloc (.cells #[.int .u8 c] 5)).drew)
        refine wpAnyH_take (i := 25) (oi := { dst := some 123, op := Go.Op.convert 22 9 (Go.Operand.tmp 122), type := 9, pos := "more.go:32", after := #[{ on := 24, ground := Go.Ground.data }, { on := 18, ground := Go.Ground.guard }], guard := some (18, false) }) (v := ?_) rfl (by kernel_rfl) (by kernel_rfl) (by kernel_rfl) (fun _ _ _ h => h) (Or.inl ⟨by rfl, ?_⟩) (by assumption) ?_
        rotate_left
        focus ((intro w hSw; (try dsimp only at hSw); go_simp); try (with_reducible rfl))
        try simp only [Act.put, List.setIfInBounds_toArray, List.set_cons_zero, List.set_cons_succ]
        refine wpAnyH_take (i := 26) (oi := { dst := some 124, op := Go.Op.binOp Go.BinOp.neq 9 (Go.Operand.tmp 120) (Go.Operand.tmp 123) 9, type := 4, pos := "more.go:32", after := #[{ on := 22, ground := Go.Ground.data }, { on := 25, ground := Go.Ground.data }, { on := 18, ground := Go.Ground.guard }], guard := some (18, false) }) (v := ?_) rfl (by kernel_rfl) (by kernel_rfl) (by kernel_rfl) (fun _ _ _ h => h) (Or.inl ⟨by rfl, ?_⟩) (by assumption) ?_
        rotate_left
        focus ((intro w hSw; (try dsimp only at hSw); go_simp); try (with_reducible rfl))
        try simp only [Act.put, List.setIfInBounds_toArray, List.set_cons_zero, List.set_cons_succ]
        refine wpAnyH_take (i := 27) (oi := { dst := some 125, op := Go.Op.pick (Go.Operand.tmp 116) (Go.Operand.const (Go.Value.bool true)) (Go.Operand.tmp 124), type := 4, pos := "more.go:32", after := #[{ on := 18, ground := Go.Ground.data }, { on := 26, ground := Go.Ground.data }, { on := 2, ground := Go.Ground.guard }], guard := some (2, true) }) (v := ?_) rfl (by kernel_rfl) (by kernel_rfl) (by kernel_rfl) (fun _ _ _ h => h) (Or.inl ⟨by rfl, ?_⟩) (by assumption) ?_
        rotate_left
        focus ((intro w hSw; (try dsimp only at hSw); go_simp); try (with_reducible rfl))
        try simp only [Act.put, List.setIfInBounds_toArray, List.set_cons_zero, List.set_cons_succ]
        refine wpAnyH_take (i := 28) (oi := { dst := some 126, op := Go.Op.pick (Go.Operand.tmp 100) (Go.Operand.tmp 125) (Go.Operand.const (Go.Value.bool false)), type := 4, pos := "more.go:32", after := #[{ on := 2, ground := Go.Ground.data }, { on := 27, ground := Go.Ground.data }], guard := none }) (v := ?_) rfl (by kernel_rfl) (by kernel_rfl) (by kernel_rfl) (fun _ _ _ h => h) (Or.inl ⟨by rfl, ?_⟩) (by assumption) ?_
        rotate_left
        focus ((intro w hSw; (try dsimp only at hSw); go_simp); try (with_reducible rfl))
        try simp only [Act.put, List.setIfInBounds_toArray, List.set_cons_zero, List.set_cons_succ]
        refine wpAnyH_done (by kernel_rfl) ?_ _
        go_wp2_with fail
        go_ret
        exact ⟨rfl, (HB3.out.alloc HB3.out.size (.cells #[.int .u8 c] 5)).drew⟩
      · -- digit
        have hD : isDigit c = true := hc
        have hn := digit_not hc
        have hL : isLetter c = false := hn.2.2
        have hB : bl c = false := by unfold bl; rw [hn.1]; simp [hn.2.1]
        have hM : isMark c = false := by
          cases hm : isMark c
          · rfl
          · rw [(mark_not hm).2.2.2] at hc; cases hc
        have hi : isInner c = true := by unfold isInner; rw [hD]; simp
        have E1 : Lexes 1 (fun i => [c].getD i 0) 0 [⟨2, 0, 1⟩] none := last_digit hc
        have E2 := a_inner c hi
        have E3 := d_digit c hc
        rw [hL, hD, hB, hM]
        have X1 := hid E1
        have X2 := hid E2
        have X3 := hid E3
        clear E1 E2 E3 hL hD hB hM hn hc hi
        go_wp2_with fail
        refine (lex_toks (some ⟨wr.heap.size, 0, none⟩) 1 1 (fun i => [c].getD i 0) _ HR1.out HU1.out (by omega)).mono ?_
        rintro e v1 ⟨⟨l1, g1, c1, hl1, rfl, hg1, hc1, hT1⟩ | ⟨l1, p1, hl1, rfl⟩, hB1⟩
        rotate_left
        · exact absurd (hl1.unique X1.out).2 (by simp)
        obtain rfl := (hl1.unique X1.out).1
        clear hl1
        have hs1 := hB1.size
        go_wp2_with fail
        refine (lex_toks (some ⟨v1.heap.size, 0, none⟩) 2 2 (two 97 c) _ (HR2.out 97 v1) (HU2.out 97 (by omega)) (by omega)).mono ?_
        rintro e v2 ⟨⟨l2, g2, c2, hl2, rfl, hg2, hc2, hT2⟩ | ⟨l2, p2, hl2, rfl⟩, hB2⟩
        rotate_left
        · exact absurd (hl2.unique X2.out).2 (by simp)
        obtain rfl := (hl2.unique X2.out).1
        clear hl2
        have hs2 := hB2.size
        go_wp2_with fail
        refine (lex_toks (some ⟨v2.heap.size, 0, none⟩) 2 2 (two 55 c) _ (HR2.out 55 v2) (HU2.out 55 (by omega)) (by omega)).mono ?_
        rintro e v3 ⟨⟨l3, g3, c3, hl3, rfl, hg3, hc3, hT3⟩ | ⟨l3, p3, hl3, rfl⟩, hB3⟩
        rotate_left
        · exact absurd (hl3.unique X3.out).2 (by simp)
        obtain rfl := (hl3.unique X3.out).1
        clear hl3
        have hs3 := hB3.size
        have hw0 := hB.size
        have b1 := (hB.alloc hB.size (.cells #[.int .u8 c] 5)).trans (hB1.mono (by have := hB.size; simp; omega))
        have b2 := (b1.alloc b1.size (.cells #[.int .u8 97, .int .u8 c] 5)).trans (hB2.mono (by have := b1.size; simp; omega))
        have b3 := (b2.alloc b2.size (.cells #[.int .u8 55, .int .u8 c] 5)).trans (hB3.mono (by have := b2.size; simp; omega))
        have hT1b := (hT1.alloc (.cells #[.int .u8 97, .int .u8 c] 5)).below hB2 (hT1.alloc _).lt
        have hT1c := (hT1b.alloc (.cells #[.int .u8 55, .int .u8 c] 5)).below hB3 (hT1b.alloc _).lt
        obtain ⟨y0, y1, _⟩ := hT1c.at_ (i := 0) (t := ⟨2, 0, 1⟩) rfl
        have x0 : v3.cell? ⟨g1, 0, none⟩ = some (.int .i64 2) := y0
        have x1 : v3.cell? ⟨g1, 1, none⟩ = some (.string (sub (fun i => [c].getD i 0) 0 1)) := y1
        have hcv : (convert 22 9 (.slice (some ⟨v3.heap.size, 0, none⟩) 1 1)).run Try.prog (v3.alloc (.cells #[.int .u8 c] 5)).drew = .ok (.string (sub (fun i => [c].getD i 0) 0 1)) (v3.alloc (.cells #[.int .u8 c] 5)).drew := conv_any _ 1 1 (fun i => [c].getD i 0) _ (by exact Row.of_mark v3 5 (0, 0) [c] #[.int .u8 c] rfl 1 rfl) HU1.out
        clear y0 y1 hT1b hT1c hT1
        generalize sub (fun i => [c].getD i 0) 0 1 = S at *
        have HB3 := hid b3
        clear b1 b2 b3 hB hB1 hB2 hB3
        go_wp2_with fail
        have k0 : (v3.alloc (.cells #[.int .u8 c] 5)).cell? ⟨g1, 0, none⟩ = some (.int .i64 2) := (World.cell?_alloc_lt _ _ _ (World.block_lt_of_cell? _ _ x0)).trans x0
        have k1 : (v3.alloc (.cells #[.int .u8 c] 5)).cell? ⟨g1, 1, none⟩ = some (.string S) := (World.cell?_alloc_lt _ _ _ (World.block_lt_of_cell? _ _ x1)).trans x1
        refine wp_region_held_drew (S := fun w' => w'.cell? ⟨g1, 0, none⟩ = some (.int .i64 2) ∧ w'.cell? ⟨g1, 1, none⟩ = some (.string S)) (by kernel_rfl) (by exact ⟨x0, x1⟩) (fun hHeld => ?_)
        refine wpAnyH_take (i := 0) (oi := { dst := some 98, op := Go.Op.move (Go.Operand.tmp 19), type := 3, pos := "more.go:32", after := #[], guard := none }) (v := ?_) rfl (by kernel_rfl) (by kernel_rfl) (by kernel_rfl) (fun _ _ _ h => h) (Or.inl ⟨by rfl, ?_⟩) (by assumption) ?_
        rotate_left
        focus ((intro w hSw; (try dsimp only at hSw); go_simp); try (with_reducible rfl))
        try simp only [Act.put, List.setIfInBounds_toArray, List.set_cons_zero, List.set_cons_succ]
        refine wpAnyH_take (i := 1) (oi := { dst := some 99, op := Go.Op.binOp Go.BinOp.gtr 3 (Go.Operand.tmp 98) (Go.Operand.const (Go.Value.int Go.IntKind.i64 0)) 3, type := 4, pos := "more.go:32", after := #[{ on := 0, ground := Go.Ground.data }], guard := none }) (v := ?_) rfl (by kernel_rfl) (by kernel_rfl) (by kernel_rfl) (fun _ _ _ h => h) (Or.inl ⟨by rfl, ?_⟩) (by assumption) ?_
        rotate_left
        focus ((intro w hSw; (try dsimp only at hSw); go_simp); try (with_reducible rfl))
        try simp only [Act.put, List.setIfInBounds_toArray, List.set_cons_zero, List.set_cons_succ]
        refine wpAnyH_take (i := 2) (oi := { dst := some 100, op := Go.Op.move (Go.Operand.tmp 99), type := 4, pos := "more.go:32", after := #[{ on := 1, ground := Go.Ground.data }], guard := none }) (v := ?_) rfl (by kernel_rfl) (by kernel_rfl) (by kernel_rfl) (fun _ _ _ h => h) (Or.inl ⟨by rfl, ?_⟩) (by assumption) ?_
        rotate_left
        focus ((intro w hSw; (try dsimp only at hSw); go_simp); try (with_reducible rfl))
        try simp only [Act.put, List.setIfInBounds_toArray, List.set_cons_zero, List.set_cons_succ]
        refine wpAnyH_take (i := 3) (oi := { dst := some 101, op := Go.Op.move (Go.Operand.tmp 12), type := 25, pos := "more.go:32", after := #[{ on := 2, ground := Go.Ground.guard }], guard := some (2, true) }) (v := ?_) rfl (by kernel_rfl) (by kernel_rfl) (by kernel_rfl) (fun _ _ _ h => h) (Or.inl ⟨by rfl, ?_⟩) (by assumption) ?_
        rotate_left
        focus ((intro w hSw; (try dsimp only at hSw); go_simp); try (with_reducible rfl))
        try simp only [Act.put, List.setIfInBounds_toArray, List.set_cons_zero, List.set_cons_succ]
        refine wpAnyH_take (i := 4) (oi := { dst := some 102, op := Go.Op.binOp Go.BinOp.neq 25 (Go.Operand.tmp 101) (Go.Operand.const (Go.Value.int Go.IntKind.i64 0)) 25, type := 4, pos := "more.go:32", after := #[{ on := 3, ground := Go.Ground.data }, { on := 2, ground := Go.Ground.guard }], guard := some (2, true) }) (v := ?_) rfl (by kernel_rfl) (by kernel_rfl) (by kernel_rfl) (fun _ _ _ h => h) (Or.inl ⟨by rfl, ?_⟩) (by assumption) ?_
        rotate_left
        focus ((intro w hSw; (try dsimp only at hSw); go_simp); try (with_reducible rfl))
        try simp only [Act.put, List.setIfInBounds_toArray, List.set_cons_zero, List.set_cons_succ]
        refine wpAnyH_take (i := 5) (oi := { dst := some 103, op := Go.Op.move (Go.Operand.tmp 102), type := 4, pos := "more.go:32", after := #[{ on := 4, ground := Go.Ground.data }, { on := 2, ground := Go.Ground.chain }, { on := 2, ground := Go.Ground.guard }], guard := some (2, true) }) (v := ?_) rfl (by kernel_rfl) (by kernel_rfl) (by kernel_rfl) (fun _ _ _ h => h) (Or.inl ⟨by rfl, ?_⟩) (by assumption) ?_
        rotate_left
        focus ((intro w hSw; (try dsimp only at hSw); go_simp); try (with_reducible rfl))
        try simp only [Act.put, List.setIfInBounds_toArray, List.set_cons_zero, List.set_cons_succ]
        refine wpAnyH_take (i := 6) (oi := { dst := some 104, op := Go.Op.move (Go.Operand.tmp 10), type := 24, pos := "more.go:32", after := #[{ on := 5, ground := Go.Ground.guard }], guard := some (5, false) }) (v := ?_) rfl (by kernel_rfl) (by kernel_rfl) (by kernel_rfl) (fun _ _ _ h => h) (Or.inl ⟨by rfl, ?_⟩) (by assumption) ?_
        rotate_left
        focus ((intro w hSw; (try dsimp only at hSw); go_simp); try (with_reducible rfl))
        try simp only [Act.put, List.setIfInBounds_toArray, List.set_cons_zero, List.set_cons_succ]
        refine wpAnyH_take (i := 7) (oi := { dst := some 105, op := Go.Op.call { callee := Go.Callee.builtin Go.Builtin.len, args := #[Go.Operand.tmp 104], argTypes := #[24] }, type := 3, pos := "more.go:32", after := #[{ on := 6, ground := Go.Ground.data }, { on := 5, ground := Go.Ground.guard }], guard := some (5, false) }) (v := ?_) rfl (by kernel_rfl) (by kernel_rfl) (by kernel_rfl) (fun _ _ _ h => h) (Or.inl ⟨by rfl, ?_⟩) (by assumption) ?_
        rotate_left
        focus ((intro w hSw; (try dsimp only at hSw); go_simp); try (with_reducible rfl))
        try simp only [Act.put, List.setIfInBounds_toArray, List.set_cons_zero, List.set_cons_succ]
        refine wpAnyH_take (i := 8) (oi := { dst := some 106, op := Go.Op.binOp Go.BinOp.neq 3 (Go.Operand.tmp 105) (Go.Operand.const (Go.Value.int Go.IntKind.i64 2)) 3, type := 4, pos := "more.go:32", after := #[{ on := 7, ground := Go.Ground.data }, { on := 5, ground := Go.Ground.guard }], guard := some (5, false) }) (v := ?_) rfl (by kernel_rfl) (by kernel_rfl) (by kernel_rfl) (fun _ _ _ h => h) (Or.inl ⟨by rfl, ?_⟩) (by assumption) ?_
        rotate_left
        focus ((intro w hSw; (try dsimp only at hSw); go_simp); try (with_reducible rfl))
        try simp only [Act.put, List.setIfInBounds_toArray, List.set_cons_zero, List.set_cons_succ]
        refine wpAnyH_take (i := 9) (oi := { dst := some 107, op := Go.Op.pick (Go.Operand.tmp 103) (Go.Operand.const (Go.Value.bool true)) (Go.Operand.tmp 106), type := 4, pos := "more.go:32", after := #[{ on := 5, ground := Go.Ground.data }, { on := 8, ground := Go.Ground.data }, { on := 2, ground := Go.Ground.guard }], guard := some (2, true) }) (v := ?_) rfl (by kernel_rfl) (by kernel_rfl) (by kernel_rfl) (fun _ _ _ h => h) (Or.inl ⟨by rfl, ?_⟩) (by assumption) ?_
        rotate_left
        focus ((intro w hSw; (try dsimp only at hSw); go_simp); try (with_reducible rfl))
        try simp only [Act.put, List.setIfInBounds_toArray, List.set_cons_zero, List.set_cons_succ]
        refine wpAnyH_take (i := 10) (oi := { dst := some 108, op := Go.Op.move (Go.Operand.tmp 107), type := 4, pos := "more.go:32", after := #[{ on := 9, ground := Go.Ground.data }, { on := 5, ground := Go.Ground.chain }, { on := 2, ground := Go.Ground.guard }], guard := some (2, true) }) (v := ?_) rfl (by kernel_rfl) (by kernel_rfl) (by kernel_rfl) (fun _ _ _ h => h) (Or.inl ⟨by rfl, ?_⟩) (by assumption) ?_
        rotate_left
        focus ((intro w hSw; (try dsimp only at hSw); go_simp); try (with_reducible rfl))
        try simp only [Act.put, List.setIfInBounds_toArray, List.set_cons_zero, List.set_cons_succ]
        refine wpAnyH_take (i := 11) (oi := { dst := some 109, op := Go.Op.move (Go.Operand.tmp 10), type := 24, pos := "more.go:32", after := #[{ on := 10, ground := Go.Ground.guard }], guard := some (10, false) }) (v := ?_) rfl (by kernel_rfl) (by kernel_rfl) (by kernel_rfl) (fun _ _ _ h => h) (Or.inl ⟨by rfl, ?_⟩) (by assumption) ?_
        rotate_left
        focus ((intro w hSw; (try dsimp only at hSw); go_simp); try (with_reducible rfl))
        try simp only [Act.put, List.setIfInBounds_toArray, List.set_cons_zero, List.set_cons_succ]
        refine wpAnyH_take (i := 12) (oi := { dst := some 110, op := Go.Op.indexAddr 24 (Go.Operand.tmp 109) (Go.Operand.const (Go.Value.int Go.IntKind.i64 0)), type := 0, pos := "more.go:32", after := #[{ on := 11, ground := Go.Ground.data }, { on := 10, ground := Go.Ground.guard }], guard := some (10, false) }) (v := ?_) rfl (by kernel_rfl) (by kernel_rfl) (by kernel_rfl) (fun _ _ _ h => h) (Or.inl ⟨by rfl, ?_⟩) (by assumption) ?_
        rotate_left
        focus ((intro w hSw; (try dsimp only at hSw); go_simp); try (with_reducible rfl))
        try simp only [Act.put, List.setIfInBounds_toArray, List.set_cons_zero, List.set_cons_succ]
        refine wpAnyH_take (i := 13) (oi := { dst := some 111, op := Go.Op.fieldAddr 32 (Go.Operand.tmp 110) 0, type := 0, pos := "more.go:32", after := #[{ on := 12, ground := Go.Ground.data }, { on := 10, ground := Go.Ground.guard }], guard := some (10, false) }) (v := ?_) rfl (by kernel_rfl) (by kernel_rfl) (by kernel_rfl) (fun _ _ _ h => h) (Or.inl ⟨by rfl, ?_⟩) (by assumption) ?_
        rotate_left
        focus ((intro w hSw; (try dsimp only at hSw); go_simp); try (with_reducible rfl))
        try simp only [Act.put, List.setIfInBounds_toArray, List.set_cons_zero, List.set_cons_succ]
        refine wpAnyH_take (i := 14) (oi := { dst := some 112, op := Go.Op.load 3 (Go.Operand.tmp 111), type := 3, pos := "more.go:32", after := #[{ on := 13, ground := Go.Ground.data }, { on := 10, ground := Go.Ground.guard }], guard := some (10, false) }) (v := ?_) rfl (by kernel_rfl) (by kernel_rfl) (by kernel_rfl) (fun _ _ _ h => h) (Or.inl ⟨by rfl, ?_⟩) (by assumption) ?_
        rotate_left
        focus ((intro w hSw; (try dsimp only at hSw); go_simp); try (with_reducible rfl))
        try simp only [Act.put, List.setIfInBounds_toArray, List.set_cons_zero, List.set_cons_succ]
        refine wpAnyH_take (i := 15) (oi := { dst := some 113, op := Go.Op.move (Go.Operand.tmp 19), type := 3, pos := "more.go:32", after := #[{ on := 10, ground := Go.Ground.guard }], guard := some (10, false) }) (v := ?_) rfl (by kernel_rfl) (by kernel_rfl) (by kernel_rfl) (fun _ _ _ h => h) (Or.inl ⟨by rfl, ?_⟩) (by assumption) ?_
        rotate_left
        focus ((intro w hSw; (try dsimp only at hSw); go_simp); try (with_reducible rfl))
        try simp only [Act.put, List.setIfInBounds_toArray, List.set_cons_zero, List.set_cons_succ]
        refine wpAnyH_take (i := 16) (oi := { dst := some 114, op := Go.Op.binOp Go.BinOp.neq 3 (Go.Operand.tmp 112) (Go.Operand.tmp 113) 3, type := 4, pos := "more.go:32", after := #[{ on := 14, ground := Go.Ground.data }, { on := 15, ground := Go.Ground.data }, { on := 10, ground := Go.Ground.guard }], guard := some (10, false) }) (v := ?_) rfl (by kernel_rfl) (by kernel_rfl) (by kernel_rfl) (fun _ _ _ h => h) (Or.inl ⟨by rfl, ?_⟩) (by assumption) ?_
        rotate_left
        focus ((intro w hSw; (try dsimp only at hSw); go_simp); try (with_reducible rfl))
        try simp only [Act.put, List.setIfInBounds_toArray, List.set_cons_zero, List.set_cons_succ]
        refine wpAnyH_take (i := 17) (oi := { dst := some 115, op := Go.Op.pick (Go.Operand.tmp 108) (Go.Operand.const (Go.Value.bool true)) (Go.Operand.tmp 114), type := 4, pos := "more.go:32", after := #[{ on := 10, ground := Go.Ground.data }, { on := 16, ground := Go.Ground.data }, { on := 2, ground := Go.Ground.guard }], guard := some (2, true) }) (v := ?_) rfl (by kernel_rfl) (by kernel_rfl) (by kernel_rfl) (fun _ _ _ h => h) (Or.inl ⟨by rfl, ?_⟩) (by assumption) ?_
        rotate_left
        focus ((intro w hSw; (try dsimp only at hSw); go_simp); try (with_reducible rfl))
        try simp only [Act.put, List.setIfInBounds_toArray, List.set_cons_zero, List.set_cons_succ]
        refine wpAnyH_take (i := 18) (oi := { dst := some 116, op := Go.Op.move (Go.Operand.tmp 115), type := 4, pos := "more.go:32", after := #[{ on := 17, ground := Go.Ground.data }, { on := 10, ground := Go.Ground.chain }, { on := 2, ground := Go.Ground.guard }], guard := some (2, true) }) (v := ?_) rfl (by kernel_rfl) (by kernel_rfl) (by kernel_rfl) (fun _ _ _ h => h) (Or.inl ⟨by rfl, ?_⟩) (by assumption) ?_
        rotate_left
        focus ((intro w hSw; (try dsimp only at hSw); go_simp); try (with_reducible rfl))
        try simp only [Act.put, List.setIfInBounds_toArray, List.set_cons_zero, List.set_cons_succ]
        refine wpAnyH_take (i := 19) (oi := { dst := some 117, op := Go.Op.move (Go.Operand.tmp 10), type := 24, pos := "more.go:32", after := #[{ on := 18, ground := Go.Ground.guard }], guard := some (18, false) }) (v := ?_) rfl (by kernel_rfl) (by kernel_rfl) (by kernel_rfl) (fun _ _ _ h => h) (Or.inl ⟨by rfl, ?_⟩) (by assumption) ?_
        rotate_left
        focus ((intro w hSw; (try dsimp only at hSw); go_simp); try (with_reducible rfl))
        try simp only [Act.put, List.setIfInBounds_toArray, List.set_cons_zero, List.set_cons_succ]
        refine wpAnyH_take (i := 20) (oi := { dst := some 118, op := Go.Op.indexAddr 24 (Go.Operand.tmp 117) (Go.Operand.const (Go.Value.int Go.IntKind.i64 0)), type := 0, pos := "more.go:32", after := #[{ on := 19, ground := Go.Ground.data }, { on := 18, ground := Go.Ground.guard }], guard := some (18, false) }) (v := ?_) rfl (by kernel_rfl) (by kernel_rfl) (by kernel_rfl) (fun _ _ _ h => h) (Or.inl ⟨by rfl, ?_⟩) (by assumption) ?_
        rotate_left
        focus ((intro w hSw; (try dsimp only at hSw); go_simp); try (with_reducible rfl))
        try simp only [Act.put, List.setIfInBounds_toArray, List.set_cons_zero, List.set_cons_succ]
        refine wpAnyH_take (i := 21) (oi := { dst := some 119, op := Go.Op.fieldAddr 32 (Go.Operand.tmp 118) 1, type := 0, pos := "more.go:32", after := #[{ on := 20, ground := Go.Ground.data }, { on := 18, ground := Go.Ground.guard }], guard := some (18, false) }) (v := ?_) rfl (by kernel_rfl) (by kernel_rfl) (by kernel_rfl) (fun _ _ _ h => h) (Or.inl ⟨by rfl, ?_⟩) (by assumption) ?_
        rotate_left
        focus ((intro w hSw; (try dsimp only at hSw); go_simp); try (with_reducible rfl))
        try simp only [Act.put, List.setIfInBounds_toArray, List.set_cons_zero, List.set_cons_succ]
        refine wpAnyH_take (i := 22) (oi := { dst := some 120, op := Go.Op.load 9 (Go.Operand.tmp 119), type := 9, pos := "more.go:32", after := #[{ on := 21, ground := Go.Ground.data }, { on := 18, ground := Go.Ground.guard }], guard := some (18, false) }) (v := ?_) rfl (by kernel_rfl) (by kernel_rfl) (by kernel_rfl) (fun _ _ _ h => h) (Or.inl ⟨by rfl, ?_⟩) (by assumption) ?_
        rotate_left
        focus ((intro w hSw; (try dsimp only at hSw); go_simp); try (with_reducible rfl))
        try simp only [Act.put, List.setIfInBounds_toArray, List.set_cons_zero, List.set_cons_succ]
        refine wpAnyH_take (i := 23) (oi := { dst := some 121, op := Go.Op.move (Go.Operand.tmp 0), type := 5, pos := "more.go:32", after := #[{ on := 18, ground := Go.Ground.guard }], guard := some (18, false) }) (v := ?_) rfl (by kernel_rfl) (by kernel_rfl) (by kernel_rfl) (fun _ _ _ h => h) (Or.inl ⟨by rfl, ?_⟩) (by assumption) ?_
        rotate_left
        focus ((intro w hSw; (try dsimp only at hSw); go_simp); try (with_reducible rfl))
        try simp only [Act.put, List.setIfInBounds_toArray, List.set_cons_zero, List.set_cons_succ]
        refine wpAnyH_ready (rs := [24]) (by kernel_rfl) (by simp) ?_
        refine AllReadyH.cons (o := { dst := some 122, op := Go.Op.buildSlice 22 1 #[(0, Go.Operand.tmp 121)], type := 22, pos := "more.go:32", after := #[{ on := 23, ground := Go.Ground.data }, { on := 18, ground := Go.Ground.guard }], guard := some (18, false) }) rfl (fun K hK => ?_) AllReadyH.nil
        go_simp
        skip
        refine hK.out _ _ ?_ (fun hHeld => ?_)
        · exact ⟨k0, k1⟩
        clear hK K
        try simp only [Act.put, List.setIfInBounds_toArray, List.set_cons_zero, List.set_cons_succ]
        clear hHeld
        refine wpAnyH_mono (S' := fun w' => w'.cell? ⟨g1, 0, none⟩ = some (.int .i64 2) ∧ w'.cell? ⟨g1, 1, none⟩ = some (.string S) ∧ (convert 22 9 (.slice (some ⟨v3.heap.size, 0, none⟩) 1 1)).run Try.prog w' = .ok (.string S) w') (fun w h => ⟨h.1, h.2.1⟩) _ _ _ _ ?_
        have hHeld := (And.intro k0 (And.intro k1 hcv) : (fun w' => w'.cell? ⟨g1, 0, none⟩ = some (.int .i64 2) ∧ w'.cell? ⟨g1, 1, none⟩ = some (.string S) ∧ (convert 22 9 (.slice (some ⟨v3.heap.size, 0, none⟩) 1 1)).run Try.prog w' = .ok (.string S) w') (v3.alloc (.cells #[.int .u8 c] 5)).drew)
        refine wpAnyH_take (i := 25) (oi := { dst := some 123, op := Go.Op.convert 22 9 (Go.Operand.tmp 122), type := 9, pos := "more.go:32", after := #[{ on := 24, ground := Go.Ground.data }, { on := 18, ground := Go.Ground.guard }], guard := some (18, false) }) (v := ?_) rfl (by kernel_rfl) (by kernel_rfl) (by kernel_rfl) (fun _ _ _ h => h) (Or.inl ⟨by rfl, ?_⟩) (by assumption) ?_
        rotate_left
        focus ((intro w hSw; (try dsimp only at hSw); go_simp); try (with_reducible rfl))
        try simp only [Act.put, List.setIfInBounds_toArray, List.set_cons_zero, List.set_cons_succ]
        refine wpAnyH_take (i := 26) (oi := { dst := some 124, op := Go.Op.binOp Go.BinOp.neq 9 (Go.Operand.tmp 120) (Go.Operand.tmp 123) 9, type := 4, pos := "more.go:32", after := #[{ on := 22, ground := Go.Ground.data }, { on := 25, ground := Go.Ground.data }, { on := 18, ground := Go.Ground.guard }], guard := some (18, false) }) (v := ?_) rfl (by kernel_rfl) (by kernel_rfl) (by kernel_rfl) (fun _ _ _ h => h) (Or.inl ⟨by rfl, ?_⟩) (by assumption) ?_
        rotate_left
        focus ((intro w hSw; (try dsimp only at hSw); go_simp); try (with_reducible rfl))
        try simp only [Act.put, List.setIfInBounds_toArray, List.set_cons_zero, List.set_cons_succ]
        refine wpAnyH_take (i := 27) (oi := { dst := some 125, op := Go.Op.pick (Go.Operand.tmp 116) (Go.Operand.const (Go.Value.bool true)) (Go.Operand.tmp 124), type := 4, pos := "more.go:32", after := #[{ on := 18, ground := Go.Ground.data }, { on := 26, ground := Go.Ground.data }, { on := 2, ground := Go.Ground.guard }], guard := some (2, true) }) (v := ?_) rfl (by kernel_rfl) (by kernel_rfl) (by kernel_rfl) (fun _ _ _ h => h) (Or.inl ⟨by rfl, ?_⟩) (by assumption) ?_
        rotate_left
        focus ((intro w hSw; (try dsimp only at hSw); go_simp); try (with_reducible rfl))
        try simp only [Act.put, List.setIfInBounds_toArray, List.set_cons_zero, List.set_cons_succ]
        refine wpAnyH_take (i := 28) (oi := { dst := some 126, op := Go.Op.pick (Go.Operand.tmp 100) (Go.Operand.tmp 125) (Go.Operand.const (Go.Value.bool false)), type := 4, pos := "more.go:32", after := #[{ on := 2, ground := Go.Ground.data }, { on := 27, ground := Go.Ground.data }], guard := none }) (v := ?_) rfl (by kernel_rfl) (by kernel_rfl) (by kernel_rfl) (fun _ _ _ h => h) (Or.inl ⟨by rfl, ?_⟩) (by assumption) ?_
        rotate_left
        focus ((intro w hSw; (try dsimp only at hSw); go_simp); try (with_reducible rfl))
        try simp only [Act.put, List.setIfInBounds_toArray, List.set_cons_zero, List.set_cons_succ]
        refine wpAnyH_done (by kernel_rfl) ?_ _
        go_wp2_with fail
        go_ret
        exact ⟨rfl, (HB3.out.alloc HB3.out.size (.cells #[.int .u8 c] 5)).drew⟩
      · -- blank
        have hn := blank_not hc
        have hL : isLetter c = false := hn.1
        have hD : isDigit c = false := hn.2.1
        have hM : isMark c = false := hn.2.2.1
        have hB : bl c = true := by unfold bl; rcases hc with h | rfl; (rw [h]; rfl); rfl
        have hi : isInner c = false := inner_not hL hD hn.2.2.2
        have e95 : (c == 95) = false := by simp; exact hn.2.2.2
        have hlast : ∀ (z : Nat → Int) (a : Nat), z a = c → Lexes (a + 1) z a [] none := fun z a hz => by
          rcases hc with h | h
          · exact last_blank (by rw [hz]; exact h)
          · exact last_note (by rw [hz]; exact h)
        have E1 : Lexes 1 (fun i => [c].getD i 0) 0 [] none := hlast _ 0 rfl
        have E2 := a_more c hi (hlast (two 97 c) 1 rfl)
        have E3 := d_more c hi (hlast (two 55 c) 1 rfl)
        rw [hL, hD, hB, hM]
        have X1 := hid E1
        have X2 := hid E2
        have X3 := hid E3
        clear E1 E2 E3 hL hD hB hM hn hc hi hlast
        go_wp2_with fail
        refine (lex_toks (some ⟨wr.heap.size, 0, none⟩) 1 1 (fun i => [c].getD i 0) _ HR1.out HU1.out (by omega)).mono ?_
        rintro e v1 ⟨⟨l1, g1, c1, hl1, rfl, hg1, hc1, hT1⟩ | ⟨l1, p1, hl1, rfl⟩, hB1⟩
        rotate_left
        · exact absurd (hl1.unique X1.out).2 (by simp)
        obtain rfl := (hl1.unique X1.out).1
        clear hl1
        have hs1 := hB1.size
        go_wp2_with fail
        refine (lex_toks (some ⟨v1.heap.size, 0, none⟩) 2 2 (two 97 c) _ (HR2.out 97 v1) (HU2.out 97 (by omega)) (by omega)).mono ?_
        rintro e v2 ⟨⟨l2, g2, c2, hl2, rfl, hg2, hc2, hT2⟩ | ⟨l2, p2, hl2, rfl⟩, hB2⟩
        rotate_left
        · exact absurd (hl2.unique X2.out).2 (by simp)
        obtain rfl := (hl2.unique X2.out).1
        clear hl2
        have hs2 := hB2.size
        go_wp2_with fail
        refine (lex_toks (some ⟨v2.heap.size, 0, none⟩) 2 2 (two 55 c) _ (HR2.out 55 v2) (HU2.out 55 (by omega)) (by omega)).mono ?_
        rintro e v3 ⟨⟨l3, g3, c3, hl3, rfl, hg3, hc3, hT3⟩ | ⟨l3, p3, hl3, rfl⟩, hB3⟩
        rotate_left
        · exact absurd (hl3.unique X3.out).2 (by simp)
        obtain rfl := (hl3.unique X3.out).1
        clear hl3
        have hs3 := hB3.size
        have hw0 := hB.size
        have b1 := (hB.alloc hB.size (.cells #[.int .u8 c] 5)).trans (hB1.mono (by have := hB.size; simp; omega))
        have b2 := (b1.alloc b1.size (.cells #[.int .u8 97, .int .u8 c] 5)).trans (hB2.mono (by have := b1.size; simp; omega))
        have b3 := (b2.alloc b2.size (.cells #[.int .u8 55, .int .u8 c] 5)).trans (hB3.mono (by have := b2.size; simp; omega))
        have HB3 := hid b3
        clear b1 b2 b3 hB hB1 hB2 hB3
        go_wp2_with fail
        go_quiet (fail)
        go_wp2_with fail
        go_ret
        exact ⟨rfl, ⟨HB3.out.os, HB3.out.tape, HB3.out.output, HB3.out.size, HB3.out.block⟩⟩
      · -- mark
        have hn := mark_not hc
        have hL : isLetter c = false := hn.2.2.1
        have hD : isDigit c = false := hn.2.2.2
        have hM : isMark c = true := hc
        have hB : bl c = false := by unfold bl; rw [hn.1]; simp [hn.2.1]
        have hi : isInner c = false := inner_not hL hD (mark_not95 hc)
        have e95 : (c == 95) = false := by simp; exact mark_not95 hc
        have E1 : Lexes 1 (fun i => [c].getD i 0) 0 [⟨3, 0, 1⟩] none := last_mark hc
        have E2 := a_more c hi (last_mark (z := two 97 c) (a := 1) hc)
        have E3 := d_more c hi (last_mark (z := two 55 c) (a := 1) hc)
        rw [hL, hD, hB, hM]
        have X1 := hid E1
        have X2 := hid E2
        have X3 := hid E3
        clear E1 E2 E3 hL hD hB hM hn hc hi
        go_wp2_with fail
        refine (lex_toks (some ⟨wr.heap.size, 0, none⟩) 1 1 (fun i => [c].getD i 0) _ HR1.out HU1.out (by omega)).mono ?_
        rintro e v1 ⟨⟨l1, g1, c1, hl1, rfl, hg1, hc1, hT1⟩ | ⟨l1, p1, hl1, rfl⟩, hB1⟩
        rotate_left
        · exact absurd (hl1.unique X1.out).2 (by simp)
        obtain rfl := (hl1.unique X1.out).1
        clear hl1
        have hs1 := hB1.size
        go_wp2_with fail
        refine (lex_toks (some ⟨v1.heap.size, 0, none⟩) 2 2 (two 97 c) _ (HR2.out 97 v1) (HU2.out 97 (by omega)) (by omega)).mono ?_
        rintro e v2 ⟨⟨l2, g2, c2, hl2, rfl, hg2, hc2, hT2⟩ | ⟨l2, p2, hl2, rfl⟩, hB2⟩
        rotate_left
        · exact absurd (hl2.unique X2.out).2 (by simp)
        obtain rfl := (hl2.unique X2.out).1
        clear hl2
        have hs2 := hB2.size
        go_wp2_with fail
        refine (lex_toks (some ⟨v2.heap.size, 0, none⟩) 2 2 (two 55 c) _ (HR2.out 55 v2) (HU2.out 55 (by omega)) (by omega)).mono ?_
        rintro e v3 ⟨⟨l3, g3, c3, hl3, rfl, hg3, hc3, hT3⟩ | ⟨l3, p3, hl3, rfl⟩, hB3⟩
        rotate_left
        · exact absurd (hl3.unique X3.out).2 (by simp)
        obtain rfl := (hl3.unique X3.out).1
        clear hl3
        have hs3 := hB3.size
        have hw0 := hB.size
        have b1 := (hB.alloc hB.size (.cells #[.int .u8 c] 5)).trans (hB1.mono (by have := hB.size; simp; omega))
        have b2 := (b1.alloc b1.size (.cells #[.int .u8 97, .int .u8 c] 5)).trans (hB2.mono (by have := b1.size; simp; omega))
        have b3 := (b2.alloc b2.size (.cells #[.int .u8 55, .int .u8 c] 5)).trans (hB3.mono (by have := b2.size; simp; omega))
        have hT1b := (hT1.alloc (.cells #[.int .u8 97, .int .u8 c] 5)).below hB2 (hT1.alloc _).lt
        have hT1c := (hT1b.alloc (.cells #[.int .u8 55, .int .u8 c] 5)).below hB3 (hT1b.alloc _).lt
        obtain ⟨y0, y1, _⟩ := hT1c.at_ (i := 0) (t := ⟨3, 0, 1⟩) rfl
        have x0 : v3.cell? ⟨g1, 0, none⟩ = some (.int .i64 3) := y0
        have x1 : v3.cell? ⟨g1, 1, none⟩ = some (.string (sub (fun i => [c].getD i 0) 0 1)) := y1
        have hcv : (convert 22 9 (.slice (some ⟨v3.heap.size, 0, none⟩) 1 1)).run Try.prog (v3.alloc (.cells #[.int .u8 c] 5)).drew = .ok (.string (sub (fun i => [c].getD i 0) 0 1)) (v3.alloc (.cells #[.int .u8 c] 5)).drew := conv_any _ 1 1 (fun i => [c].getD i 0) _ (by exact Row.of_mark v3 5 (0, 0) [c] #[.int .u8 c] rfl 1 rfl) HU1.out
        clear y0 y1 hT1b hT1c hT1
        generalize sub (fun i => [c].getD i 0) 0 1 = S at *
        have HB3 := hid b3
        clear b1 b2 b3 hB hB1 hB2 hB3
        go_wp2_with fail
        have k0 : (v3.alloc (.cells #[.int .u8 c] 5)).cell? ⟨g1, 0, none⟩ = some (.int .i64 3) := (World.cell?_alloc_lt _ _ _ (World.block_lt_of_cell? _ _ x0)).trans x0
        have k1 : (v3.alloc (.cells #[.int .u8 c] 5)).cell? ⟨g1, 1, none⟩ = some (.string S) := (World.cell?_alloc_lt _ _ _ (World.block_lt_of_cell? _ _ x1)).trans x1
        refine wp_region_held_drew (S := fun w' => w'.cell? ⟨g1, 0, none⟩ = some (.int .i64 3) ∧ w'.cell? ⟨g1, 1, none⟩ = some (.string S)) (by kernel_rfl) (by exact ⟨x0, x1⟩) (fun hHeld => ?_)
        refine wpAnyH_take (i := 0) (oi := { dst := some 98, op := Go.Op.move (Go.Operand.tmp 19), type := 3, pos := "more.go:32", after := #[], guard := none }) (v := ?_) rfl (by kernel_rfl) (by kernel_rfl) (by kernel_rfl) (fun _ _ _ h => h) (Or.inl ⟨by rfl, ?_⟩) (by assumption) ?_
        rotate_left
        focus ((intro w hSw; (try dsimp only at hSw); go_simp); try (with_reducible rfl))
        try simp only [Act.put, List.setIfInBounds_toArray, List.set_cons_zero, List.set_cons_succ]
        refine wpAnyH_take (i := 1) (oi := { dst := some 99, op := Go.Op.binOp Go.BinOp.gtr 3 (Go.Operand.tmp 98) (Go.Operand.const (Go.Value.int Go.IntKind.i64 0)) 3, type := 4, pos := "more.go:32", after := #[{ on := 0, ground := Go.Ground.data }], guard := none }) (v := ?_) rfl (by kernel_rfl) (by kernel_rfl) (by kernel_rfl) (fun _ _ _ h => h) (Or.inl ⟨by rfl, ?_⟩) (by assumption) ?_
        rotate_left
        focus ((intro w hSw; (try dsimp only at hSw); go_simp); try (with_reducible rfl))
        try simp only [Act.put, List.setIfInBounds_toArray, List.set_cons_zero, List.set_cons_succ]
        refine wpAnyH_take (i := 2) (oi := { dst := some 100, op := Go.Op.move (Go.Operand.tmp 99), type := 4, pos := "more.go:32", after := #[{ on := 1, ground := Go.Ground.data }], guard := none }) (v := ?_) rfl (by kernel_rfl) (by kernel_rfl) (by kernel_rfl) (fun _ _ _ h => h) (Or.inl ⟨by rfl, ?_⟩) (by assumption) ?_
        rotate_left
        focus ((intro w hSw; (try dsimp only at hSw); go_simp); try (with_reducible rfl))
        try simp only [Act.put, List.setIfInBounds_toArray, List.set_cons_zero, List.set_cons_succ]
        refine wpAnyH_take (i := 3) (oi := { dst := some 101, op := Go.Op.move (Go.Operand.tmp 12), type := 25, pos := "more.go:32", after := #[{ on := 2, ground := Go.Ground.guard }], guard := some (2, true) }) (v := ?_) rfl (by kernel_rfl) (by kernel_rfl) (by kernel_rfl) (fun _ _ _ h => h) (Or.inl ⟨by rfl, ?_⟩) (by assumption) ?_
        rotate_left
        focus ((intro w hSw; (try dsimp only at hSw); go_simp); try (with_reducible rfl))
        try simp only [Act.put, List.setIfInBounds_toArray, List.set_cons_zero, List.set_cons_succ]
        refine wpAnyH_take (i := 4) (oi := { dst := some 102, op := Go.Op.binOp Go.BinOp.neq 25 (Go.Operand.tmp 101) (Go.Operand.const (Go.Value.int Go.IntKind.i64 0)) 25, type := 4, pos := "more.go:32", after := #[{ on := 3, ground := Go.Ground.data }, { on := 2, ground := Go.Ground.guard }], guard := some (2, true) }) (v := ?_) rfl (by kernel_rfl) (by kernel_rfl) (by kernel_rfl) (fun _ _ _ h => h) (Or.inl ⟨by rfl, ?_⟩) (by assumption) ?_
        rotate_left
        focus ((intro w hSw; (try dsimp only at hSw); go_simp); try (with_reducible rfl))
        try simp only [Act.put, List.setIfInBounds_toArray, List.set_cons_zero, List.set_cons_succ]
        refine wpAnyH_take (i := 5) (oi := { dst := some 103, op := Go.Op.move (Go.Operand.tmp 102), type := 4, pos := "more.go:32", after := #[{ on := 4, ground := Go.Ground.data }, { on := 2, ground := Go.Ground.chain }, { on := 2, ground := Go.Ground.guard }], guard := some (2, true) }) (v := ?_) rfl (by kernel_rfl) (by kernel_rfl) (by kernel_rfl) (fun _ _ _ h => h) (Or.inl ⟨by rfl, ?_⟩) (by assumption) ?_
        rotate_left
        focus ((intro w hSw; (try dsimp only at hSw); go_simp); try (with_reducible rfl))
        try simp only [Act.put, List.setIfInBounds_toArray, List.set_cons_zero, List.set_cons_succ]
        refine wpAnyH_take (i := 6) (oi := { dst := some 104, op := Go.Op.move (Go.Operand.tmp 10), type := 24, pos := "more.go:32", after := #[{ on := 5, ground := Go.Ground.guard }], guard := some (5, false) }) (v := ?_) rfl (by kernel_rfl) (by kernel_rfl) (by kernel_rfl) (fun _ _ _ h => h) (Or.inl ⟨by rfl, ?_⟩) (by assumption) ?_
        rotate_left
        focus ((intro w hSw; (try dsimp only at hSw); go_simp); try (with_reducible rfl))
        try simp only [Act.put, List.setIfInBounds_toArray, List.set_cons_zero, List.set_cons_succ]
        refine wpAnyH_take (i := 7) (oi := { dst := some 105, op := Go.Op.call { callee := Go.Callee.builtin Go.Builtin.len, args := #[Go.Operand.tmp 104], argTypes := #[24] }, type := 3, pos := "more.go:32", after := #[{ on := 6, ground := Go.Ground.data }, { on := 5, ground := Go.Ground.guard }], guard := some (5, false) }) (v := ?_) rfl (by kernel_rfl) (by kernel_rfl) (by kernel_rfl) (fun _ _ _ h => h) (Or.inl ⟨by rfl, ?_⟩) (by assumption) ?_
        rotate_left
        focus ((intro w hSw; (try dsimp only at hSw); go_simp); try (with_reducible rfl))
        try simp only [Act.put, List.setIfInBounds_toArray, List.set_cons_zero, List.set_cons_succ]
        refine wpAnyH_take (i := 8) (oi := { dst := some 106, op := Go.Op.binOp Go.BinOp.neq 3 (Go.Operand.tmp 105) (Go.Operand.const (Go.Value.int Go.IntKind.i64 2)) 3, type := 4, pos := "more.go:32", after := #[{ on := 7, ground := Go.Ground.data }, { on := 5, ground := Go.Ground.guard }], guard := some (5, false) }) (v := ?_) rfl (by kernel_rfl) (by kernel_rfl) (by kernel_rfl) (fun _ _ _ h => h) (Or.inl ⟨by rfl, ?_⟩) (by assumption) ?_
        rotate_left
        focus ((intro w hSw; (try dsimp only at hSw); go_simp); try (with_reducible rfl))
        try simp only [Act.put, List.setIfInBounds_toArray, List.set_cons_zero, List.set_cons_succ]
        refine wpAnyH_take (i := 9) (oi := { dst := some 107, op := Go.Op.pick (Go.Operand.tmp 103) (Go.Operand.const (Go.Value.bool true)) (Go.Operand.tmp 106), type := 4, pos := "more.go:32", after := #[{ on := 5, ground := Go.Ground.data }, { on := 8, ground := Go.Ground.data }, { on := 2, ground := Go.Ground.guard }], guard := some (2, true) }) (v := ?_) rfl (by kernel_rfl) (by kernel_rfl) (by kernel_rfl) (fun _ _ _ h => h) (Or.inl ⟨by rfl, ?_⟩) (by assumption) ?_
        rotate_left
        focus ((intro w hSw; (try dsimp only at hSw); go_simp); try (with_reducible rfl))
        try simp only [Act.put, List.setIfInBounds_toArray, List.set_cons_zero, List.set_cons_succ]
        refine wpAnyH_take (i := 10) (oi := { dst := some 108, op := Go.Op.move (Go.Operand.tmp 107), type := 4, pos := "more.go:32", after := #[{ on := 9, ground := Go.Ground.data }, { on := 5, ground := Go.Ground.chain }, { on := 2, ground := Go.Ground.guard }], guard := some (2, true) }) (v := ?_) rfl (by kernel_rfl) (by kernel_rfl) (by kernel_rfl) (fun _ _ _ h => h) (Or.inl ⟨by rfl, ?_⟩) (by assumption) ?_
        rotate_left
        focus ((intro w hSw; (try dsimp only at hSw); go_simp); try (with_reducible rfl))
        try simp only [Act.put, List.setIfInBounds_toArray, List.set_cons_zero, List.set_cons_succ]
        refine wpAnyH_take (i := 11) (oi := { dst := some 109, op := Go.Op.move (Go.Operand.tmp 10), type := 24, pos := "more.go:32", after := #[{ on := 10, ground := Go.Ground.guard }], guard := some (10, false) }) (v := ?_) rfl (by kernel_rfl) (by kernel_rfl) (by kernel_rfl) (fun _ _ _ h => h) (Or.inl ⟨by rfl, ?_⟩) (by assumption) ?_
        rotate_left
        focus ((intro w hSw; (try dsimp only at hSw); go_simp); try (with_reducible rfl))
        try simp only [Act.put, List.setIfInBounds_toArray, List.set_cons_zero, List.set_cons_succ]
        refine wpAnyH_take (i := 12) (oi := { dst := some 110, op := Go.Op.indexAddr 24 (Go.Operand.tmp 109) (Go.Operand.const (Go.Value.int Go.IntKind.i64 0)), type := 0, pos := "more.go:32", after := #[{ on := 11, ground := Go.Ground.data }, { on := 10, ground := Go.Ground.guard }], guard := some (10, false) }) (v := ?_) rfl (by kernel_rfl) (by kernel_rfl) (by kernel_rfl) (fun _ _ _ h => h) (Or.inl ⟨by rfl, ?_⟩) (by assumption) ?_
        rotate_left
        focus ((intro w hSw; (try dsimp only at hSw); go_simp); try (with_reducible rfl))
        try simp only [Act.put, List.setIfInBounds_toArray, List.set_cons_zero, List.set_cons_succ]
        refine wpAnyH_take (i := 13) (oi := { dst := some 111, op := Go.Op.fieldAddr 32 (Go.Operand.tmp 110) 0, type := 0, pos := "more.go:32", after := #[{ on := 12, ground := Go.Ground.data }, { on := 10, ground := Go.Ground.guard }], guard := some (10, false) }) (v := ?_) rfl (by kernel_rfl) (by kernel_rfl) (by kernel_rfl) (fun _ _ _ h => h) (Or.inl ⟨by rfl, ?_⟩) (by assumption) ?_
        rotate_left
        focus ((intro w hSw; (try dsimp only at hSw); go_simp); try (with_reducible rfl))
        try simp only [Act.put, List.setIfInBounds_toArray, List.set_cons_zero, List.set_cons_succ]
        refine wpAnyH_take (i := 14) (oi := { dst := some 112, op := Go.Op.load 3 (Go.Operand.tmp 111), type := 3, pos := "more.go:32", after := #[{ on := 13, ground := Go.Ground.data }, { on := 10, ground := Go.Ground.guard }], guard := some (10, false) }) (v := ?_) rfl (by kernel_rfl) (by kernel_rfl) (by kernel_rfl) (fun _ _ _ h => h) (Or.inl ⟨by rfl, ?_⟩) (by assumption) ?_
        rotate_left
        focus ((intro w hSw; (try dsimp only at hSw); go_simp); try (with_reducible rfl))
        try simp only [Act.put, List.setIfInBounds_toArray, List.set_cons_zero, List.set_cons_succ]
        refine wpAnyH_take (i := 15) (oi := { dst := some 113, op := Go.Op.move (Go.Operand.tmp 19), type := 3, pos := "more.go:32", after := #[{ on := 10, ground := Go.Ground.guard }], guard := some (10, false) }) (v := ?_) rfl (by kernel_rfl) (by kernel_rfl) (by kernel_rfl) (fun _ _ _ h => h) (Or.inl ⟨by rfl, ?_⟩) (by assumption) ?_
        rotate_left
        focus ((intro w hSw; (try dsimp only at hSw); go_simp); try (with_reducible rfl))
        try simp only [Act.put, List.setIfInBounds_toArray, List.set_cons_zero, List.set_cons_succ]
        refine wpAnyH_take (i := 16) (oi := { dst := some 114, op := Go.Op.binOp Go.BinOp.neq 3 (Go.Operand.tmp 112) (Go.Operand.tmp 113) 3, type := 4, pos := "more.go:32", after := #[{ on := 14, ground := Go.Ground.data }, { on := 15, ground := Go.Ground.data }, { on := 10, ground := Go.Ground.guard }], guard := some (10, false) }) (v := ?_) rfl (by kernel_rfl) (by kernel_rfl) (by kernel_rfl) (fun _ _ _ h => h) (Or.inl ⟨by rfl, ?_⟩) (by assumption) ?_
        rotate_left
        focus ((intro w hSw; (try dsimp only at hSw); go_simp); try (with_reducible rfl))
        try simp only [Act.put, List.setIfInBounds_toArray, List.set_cons_zero, List.set_cons_succ]
        refine wpAnyH_take (i := 17) (oi := { dst := some 115, op := Go.Op.pick (Go.Operand.tmp 108) (Go.Operand.const (Go.Value.bool true)) (Go.Operand.tmp 114), type := 4, pos := "more.go:32", after := #[{ on := 10, ground := Go.Ground.data }, { on := 16, ground := Go.Ground.data }, { on := 2, ground := Go.Ground.guard }], guard := some (2, true) }) (v := ?_) rfl (by kernel_rfl) (by kernel_rfl) (by kernel_rfl) (fun _ _ _ h => h) (Or.inl ⟨by rfl, ?_⟩) (by assumption) ?_
        rotate_left
        focus ((intro w hSw; (try dsimp only at hSw); go_simp); try (with_reducible rfl))
        try simp only [Act.put, List.setIfInBounds_toArray, List.set_cons_zero, List.set_cons_succ]
        refine wpAnyH_take (i := 18) (oi := { dst := some 116, op := Go.Op.move (Go.Operand.tmp 115), type := 4, pos := "more.go:32", after := #[{ on := 17, ground := Go.Ground.data }, { on := 10, ground := Go.Ground.chain }, { on := 2, ground := Go.Ground.guard }], guard := some (2, true) }) (v := ?_) rfl (by kernel_rfl) (by kernel_rfl) (by kernel_rfl) (fun _ _ _ h => h) (Or.inl ⟨by rfl, ?_⟩) (by assumption) ?_
        rotate_left
        focus ((intro w hSw; (try dsimp only at hSw); go_simp); try (with_reducible rfl))
        try simp only [Act.put, List.setIfInBounds_toArray, List.set_cons_zero, List.set_cons_succ]
        refine wpAnyH_take (i := 19) (oi := { dst := some 117, op := Go.Op.move (Go.Operand.tmp 10), type := 24, pos := "more.go:32", after := #[{ on := 18, ground := Go.Ground.guard }], guard := some (18, false) }) (v := ?_) rfl (by kernel_rfl) (by kernel_rfl) (by kernel_rfl) (fun _ _ _ h => h) (Or.inl ⟨by rfl, ?_⟩) (by assumption) ?_
        rotate_left
        focus ((intro w hSw; (try dsimp only at hSw); go_simp); try (with_reducible rfl))
        try simp only [Act.put, List.setIfInBounds_toArray, List.set_cons_zero, List.set_cons_succ]
        refine wpAnyH_take (i := 20) (oi := { dst := some 118, op := Go.Op.indexAddr 24 (Go.Operand.tmp 117) (Go.Operand.const (Go.Value.int Go.IntKind.i64 0)), type := 0, pos := "more.go:32", after := #[{ on := 19, ground := Go.Ground.data }, { on := 18, ground := Go.Ground.guard }], guard := some (18, false) }) (v := ?_) rfl (by kernel_rfl) (by kernel_rfl) (by kernel_rfl) (fun _ _ _ h => h) (Or.inl ⟨by rfl, ?_⟩) (by assumption) ?_
        rotate_left
        focus ((intro w hSw; (try dsimp only at hSw); go_simp); try (with_reducible rfl))
        try simp only [Act.put, List.setIfInBounds_toArray, List.set_cons_zero, List.set_cons_succ]
        refine wpAnyH_take (i := 21) (oi := { dst := some 119, op := Go.Op.fieldAddr 32 (Go.Operand.tmp 118) 1, type := 0, pos := "more.go:32", after := #[{ on := 20, ground := Go.Ground.data }, { on := 18, ground := Go.Ground.guard }], guard := some (18, false) }) (v := ?_) rfl (by kernel_rfl) (by kernel_rfl) (by kernel_rfl) (fun _ _ _ h => h) (Or.inl ⟨by rfl, ?_⟩) (by assumption) ?_
        rotate_left
        focus ((intro w hSw; (try dsimp only at hSw); go_simp); try (with_reducible rfl))
        try simp only [Act.put, List.setIfInBounds_toArray, List.set_cons_zero, List.set_cons_succ]
        refine wpAnyH_take (i := 22) (oi := { dst := some 120, op := Go.Op.load 9 (Go.Operand.tmp 119), type := 9, pos := "more.go:32", after := #[{ on := 21, ground := Go.Ground.data }, { on := 18, ground := Go.Ground.guard }], guard := some (18, false) }) (v := ?_) rfl (by kernel_rfl) (by kernel_rfl) (by kernel_rfl) (fun _ _ _ h => h) (Or.inl ⟨by rfl, ?_⟩) (by assumption) ?_
        rotate_left
        focus ((intro w hSw; (try dsimp only at hSw); go_simp); try (with_reducible rfl))
        try simp only [Act.put, List.setIfInBounds_toArray, List.set_cons_zero, List.set_cons_succ]
        refine wpAnyH_take (i := 23) (oi := { dst := some 121, op := Go.Op.move (Go.Operand.tmp 0), type := 5, pos := "more.go:32", after := #[{ on := 18, ground := Go.Ground.guard }], guard := some (18, false) }) (v := ?_) rfl (by kernel_rfl) (by kernel_rfl) (by kernel_rfl) (fun _ _ _ h => h) (Or.inl ⟨by rfl, ?_⟩) (by assumption) ?_
        rotate_left
        focus ((intro w hSw; (try dsimp only at hSw); go_simp); try (with_reducible rfl))
        try simp only [Act.put, List.setIfInBounds_toArray, List.set_cons_zero, List.set_cons_succ]
        refine wpAnyH_ready (rs := [24]) (by kernel_rfl) (by simp) ?_
        refine AllReadyH.cons (o := { dst := some 122, op := Go.Op.buildSlice 22 1 #[(0, Go.Operand.tmp 121)], type := 22, pos := "more.go:32", after := #[{ on := 23, ground := Go.Ground.data }, { on := 18, ground := Go.Ground.guard }], guard := some (18, false) }) rfl (fun K hK => ?_) AllReadyH.nil
        go_simp
        skip
        refine hK.out _ _ ?_ (fun hHeld => ?_)
        · exact ⟨k0, k1⟩
        clear hK K
        try simp only [Act.put, List.setIfInBounds_toArray, List.set_cons_zero, List.set_cons_succ]
        clear hHeld
        refine wpAnyH_mono (S' := fun w' => w'.cell? ⟨g1, 0, none⟩ = some (.int .i64 3) ∧ w'.cell? ⟨g1, 1, none⟩ = some (.string S) ∧ (convert 22 9 (.slice (some ⟨v3.heap.size, 0, none⟩) 1 1)).run Try.prog w' = .ok (.string S) w') (fun w h => ⟨h.1, h.2.1⟩) _ _ _ _ ?_
        have hHeld := (And.intro k0 (And.intro k1 hcv) : (fun w' => w'.cell? ⟨g1, 0, none⟩ = some (.int .i64 3) ∧ w'.cell? ⟨g1, 1, none⟩ = some (.string S) ∧ (convert 22 9 (.slice (some ⟨v3.heap.size, 0, none⟩) 1 1)).run Try.prog w' = .ok (.string S) w') (v3.alloc (.cells #[.int .u8 c] 5)).drew)
        refine wpAnyH_take (i := 25) (oi := { dst := some 123, op := Go.Op.convert 22 9 (Go.Operand.tmp 122), type := 9, pos := "more.go:32", after := #[{ on := 24, ground := Go.Ground.data }, { on := 18, ground := Go.Ground.guard }], guard := some (18, false) }) (v := ?_) rfl (by kernel_rfl) (by kernel_rfl) (by kernel_rfl) (fun _ _ _ h => h) (Or.inl ⟨by rfl, ?_⟩) (by assumption) ?_
        rotate_left
        focus ((intro w hSw; (try dsimp only at hSw); go_simp); try (with_reducible rfl))
        try simp only [Act.put, List.setIfInBounds_toArray, List.set_cons_zero, List.set_cons_succ]
        refine wpAnyH_take (i := 26) (oi := { dst := some 124, op := Go.Op.binOp Go.BinOp.neq 9 (Go.Operand.tmp 120) (Go.Operand.tmp 123) 9, type := 4, pos := "more.go:32", after := #[{ on := 22, ground := Go.Ground.data }, { on := 25, ground := Go.Ground.data }, { on := 18, ground := Go.Ground.guard }], guard := some (18, false) }) (v := ?_) rfl (by kernel_rfl) (by kernel_rfl) (by kernel_rfl) (fun _ _ _ h => h) (Or.inl ⟨by rfl, ?_⟩) (by assumption) ?_
        rotate_left
        focus ((intro w hSw; (try dsimp only at hSw); go_simp); try (with_reducible rfl))
        try simp only [Act.put, List.setIfInBounds_toArray, List.set_cons_zero, List.set_cons_succ]
        refine wpAnyH_take (i := 27) (oi := { dst := some 125, op := Go.Op.pick (Go.Operand.tmp 116) (Go.Operand.const (Go.Value.bool true)) (Go.Operand.tmp 124), type := 4, pos := "more.go:32", after := #[{ on := 18, ground := Go.Ground.data }, { on := 26, ground := Go.Ground.data }, { on := 2, ground := Go.Ground.guard }], guard := some (2, true) }) (v := ?_) rfl (by kernel_rfl) (by kernel_rfl) (by kernel_rfl) (fun _ _ _ h => h) (Or.inl ⟨by rfl, ?_⟩) (by assumption) ?_
        rotate_left
        focus ((intro w hSw; (try dsimp only at hSw); go_simp); try (with_reducible rfl))
        try simp only [Act.put, List.setIfInBounds_toArray, List.set_cons_zero, List.set_cons_succ]
        refine wpAnyH_take (i := 28) (oi := { dst := some 126, op := Go.Op.pick (Go.Operand.tmp 100) (Go.Operand.tmp 125) (Go.Operand.const (Go.Value.bool false)), type := 4, pos := "more.go:32", after := #[{ on := 2, ground := Go.Ground.data }, { on := 27, ground := Go.Ground.data }], guard := none }) (v := ?_) rfl (by kernel_rfl) (by kernel_rfl) (by kernel_rfl) (fun _ _ _ h => h) (Or.inl ⟨by rfl, ?_⟩) (by assumption) ?_
        rotate_left
        focus ((intro w hSw; (try dsimp only at hSw); go_simp); try (with_reducible rfl))
        try simp only [Act.put, List.setIfInBounds_toArray, List.set_cons_zero, List.set_cons_succ]
        refine wpAnyH_done (by kernel_rfl) ?_ _
        go_wp2_with fail
        go_ret
        exact ⟨rfl, (HB3.out.alloc HB3.out.size (.cells #[.int .u8 c] 5)).drew⟩
      · -- under
        subst hc
        have hL : isLetter 95 = false := rfl
        have hD : isDigit 95 = false := rfl
        have hM : isMark 95 = false := rfl
        have hB : bl 95 = false := rfl
        have E1 : Lexes 1 (fun i => [95].getD i 0) 0 [] (some 0) := other_lex (c := 95) rfl rfl rfl (by decide) rfl rfl
        have E2 := a_inner 95 rfl
        have E3 := d_ill 95 rfl rfl
        rw [hL, hD, hB, hM]
        have X1 := hid E1
        have X2 := hid E2
        have X3 := hid E3
        clear E1 E2 E3 hL hD hB hM
        go_wp2_with fail
        refine (lex_toks (some ⟨wr.heap.size, 0, none⟩) 1 1 (fun i => [95].getD i 0) _ HR1.out HU1.out (by omega)).mono ?_
        rintro e v1 ⟨⟨l1, g1, c1, hl1, rfl, hg1, hc1, hT1⟩ | ⟨l1, p1, hl1, rfl⟩, hB1⟩
        · exact absurd (hl1.unique X1.out).2 (by simp)
        have hp1 : ((p1 : Nat) : Int) = 0 := by have := (hl1.unique X1.out).2; simp at this; omega
        rw [hp1]
        clear hp1
        clear hl1
        have hs1 := hB1.size
        go_wp2_with fail
        refine (lex_toks (some ⟨v1.heap.size, 0, none⟩) 2 2 (two 97 95) _ (HR2.out 97 v1) (HU2.out 97 (by omega)) (by omega)).mono ?_
        rintro e v2 ⟨⟨l2, g2, c2, hl2, rfl, hg2, hc2, hT2⟩ | ⟨l2, p2, hl2, rfl⟩, hB2⟩
        rotate_left
        · exact absurd (hl2.unique X2.out).2 (by simp)
        obtain rfl := (hl2.unique X2.out).1
        clear hl2
        have hs2 := hB2.size
        go_wp2_with fail
        refine (lex_toks (some ⟨v2.heap.size, 0, none⟩) 2 2 (two 55 95) _ (HR2.out 55 v2) (HU2.out 55 (by omega)) (by omega)).mono ?_
        rintro e v3 ⟨⟨l3, g3, c3, hl3, rfl, hg3, hc3, hT3⟩ | ⟨l3, p3, hl3, rfl⟩, hB3⟩
        · exact absurd (hl3.unique X3.out).2 (by simp)
        have hp3 : ((p3 : Nat) : Int) = 1 := by have := (hl3.unique X3.out).2; simp at this; omega
        rw [hp3]
        clear hp3
        clear hl3
        have hs3 := hB3.size
        have hw0 := hB.size
        have b1 := (hB.alloc hB.size (.cells #[.int .u8 95] 5)).trans (hB1.mono (by have := hB.size; simp; omega))
        have b2 := (b1.alloc b1.size (.cells #[.int .u8 97, .int .u8 95] 5)).trans (hB2.mono (by have := b1.size; simp; omega))
        have b3 := (b2.alloc b2.size (.cells #[.int .u8 55, .int .u8 95] 5)).trans (hB3.mono (by have := b2.size; simp; omega))
        have HB3 := hid b3
        clear b1 b2 b3 hB hB1 hB2 hB3
        go_wp2_with fail
        go_quiet (fail)
        go_wp2_with fail
        go_ret
        exact ⟨rfl, ⟨HB3.out.os, HB3.out.tape, HB3.out.output, HB3.out.size, HB3.out.block⟩⟩
      · -- other
        have hL : isLetter c = false := o1
        have hD : isDigit c = false := o2
        have hM : isMark c = false := o5
        have hB : bl c = false := by unfold bl; rw [o3]; simp [o4]
        have hi : isInner c = false := inner_not hL hD o6
        have e95 : (c == 95) = false := by simp; exact o6
        have E1 : Lexes 1 (fun i => [c].getD i 0) 0 [] (some 0) := other_lex o1 o2 o3 o4 o5 rfl
        have E2 := a_more c hi (other_lex (z := two 97 c) (a := 1) o1 o2 o3 o4 o5 rfl)
        have E3 := d_more c hi (other_lex (z := two 55 c) (a := 1) o1 o2 o3 o4 o5 rfl)
        rw [hL, hD, hB, hM]
        have X1 := hid E1
        have X2 := hid E2
        have X3 := hid E3
        clear E1 E2 E3 hL hD hB hM o1 o2 o3 o4 o5 o6 hi
        go_wp2_with fail
        refine (lex_toks (some ⟨wr.heap.size, 0, none⟩) 1 1 (fun i => [c].getD i 0) _ HR1.out HU1.out (by omega)).mono ?_
        rintro e v1 ⟨⟨l1, g1, c1, hl1, rfl, hg1, hc1, hT1⟩ | ⟨l1, p1, hl1, rfl⟩, hB1⟩
        · exact absurd (hl1.unique X1.out).2 (by simp)
        have hp1 : ((p1 : Nat) : Int) = 0 := by have := (hl1.unique X1.out).2; simp at this; omega
        rw [hp1]
        clear hp1
        clear hl1
        have hs1 := hB1.size
        go_wp2_with fail
        refine (lex_toks (some ⟨v1.heap.size, 0, none⟩) 2 2 (two 97 c) _ (HR2.out 97 v1) (HU2.out 97 (by omega)) (by omega)).mono ?_
        rintro e v2 ⟨⟨l2, g2, c2, hl2, rfl, hg2, hc2, hT2⟩ | ⟨l2, p2, hl2, rfl⟩, hB2⟩
        · exact absurd (hl2.unique X2.out).2 (by simp)
        have hp2 : ((p2 : Nat) : Int) = 1 := by have := (hl2.unique X2.out).2; simp at this; omega
        rw [hp2]
        clear hp2
        clear hl2
        have hs2 := hB2.size
        go_wp2_with fail
        refine (lex_toks (some ⟨v2.heap.size, 0, none⟩) 2 2 (two 55 c) _ (HR2.out 55 v2) (HU2.out 55 (by omega)) (by omega)).mono ?_
        rintro e v3 ⟨⟨l3, g3, c3, hl3, rfl, hg3, hc3, hT3⟩ | ⟨l3, p3, hl3, rfl⟩, hB3⟩
        · exact absurd (hl3.unique X3.out).2 (by simp)
        have hp3 : ((p3 : Nat) : Int) = 1 := by have := (hl3.unique X3.out).2; simp at this; omega
        rw [hp3]
        clear hp3
        clear hl3
        have hs3 := hB3.size
        have hw0 := hB.size
        have b1 := (hB.alloc hB.size (.cells #[.int .u8 c] 5)).trans (hB1.mono (by have := hB.size; simp; omega))
        have b2 := (b1.alloc b1.size (.cells #[.int .u8 97, .int .u8 c] 5)).trans (hB2.mono (by have := b1.size; simp; omega))
        have b3 := (b2.alloc b2.size (.cells #[.int .u8 55, .int .u8 c] 5)).trans (hB3.mono (by have := b2.size; simp; omega))
        have HB3 := hid b3
        clear b1 b2 b3 hB hB1 hB2 hB3
        go_wp2_with fail
        go_quiet (fail)
        go_wp2_with fail
        go_ret
        exact ⟨rfl, ⟨HB3.out.os, HB3.out.tape, HB3.out.output, HB3.out.size, HB3.out.block⟩⟩
end Go.Proofs.Ytomnomljljkdfaa

namespace Go.Proofs.Ytomnomljljkdfaa.lexBytes
open Go.ChangeShapes Go.WideShapes Go.ChangeAt Go.RowKit
open Go.ChangeMaps (open_string shut_string)
set_option linter.unusedVariables false

theorem own : ownKnob Try.prog.godebug = none := by kernel_rfl
theorem laidOut : laidOutB Try.prog = true := by kernel_rfl

theorem walk (a0 : Int) (w : World) (w0 : (Lit.int .u8 a0).wf = true) :
    Calls Try.prog 6 #[.int .u8 a0] w fun e w' => e = .returned (.bool true) ∧ Below w.heap.size w w' := by
  exact bytes_walk a0 w (u8_wf w0)

set_option maxRecDepth 100000 in
theorem lifted (os : Os) (started : os.Started) (H : Type) (enc : TypeId × Value → H) :
    ReturnsInHanded {} Try.checked os 6 .any (Rows.lexBytesSpec.pre6 enc Try.prog Try.f6 Rows.lexBytesRow.domain false) (Rows.lexBytesSpec.post enc Try.prog Try.f6 false true false false) := by
  refine returnsInHanded_of_change (C := Try.checked) own started (by kernel_rfl) Try.func6
    (ChangeSpec.witness6 (enc := enc) (C := Try.checked) false ⟨#[], #[.int .u8 0], []⟩ 8 (by kernel_rfl) (by kernel_rfl) (by kernel_rfl) (by kernel_rfl)) ?_
  intro W base args ds gs before hval0 hW hcnd _
  have hval : ∀ (j : Nat) t v, Try.f6.params[j]? = some t → args[j]? = some v → Value.okWide Try.prog W .any base t v := hval0
  have hW' := hW
  obtain ⟨p, q, hA0, hV, rfl, hfz, hnd⟩ := hW
  have hA : DataW.TrodAll enc Try.prog W 0 (fun _ => true) true Try.f6.params.toList args.toList ds p := hA0
  rw [Try.params6] at hA hval
  obtain ⟨v0, vs0, d0, ds0, p0, q0, hargs, rfl, rfl, h0, r0⟩ := trodAll_cons hA
  obtain ⟨rfl, rfl, rfl⟩ := trodAll_nil r0
  obtain rfl : args = #[v0] := by cases args; simp_all
  obtain ⟨rfl, rfl⟩ := trodVars_none hV
  obtain ⟨a0, rfl, rfl, rfl, w0⟩ := open_int Try.underlying5 (hval 0 5 v0 rfl rfl) h0
  clear hA0 hval0
  refine (walk a0 W w0).mono fun e W' ⟨he, bel⟩ => ?_
  subst he
  exact ⟨_, rfl, _, _, _, [], _, [], hW', trodAll_mk1 (shut_bool Try.underlying4 _), (trodAll_cons_mk (shut_int Try.underlying5 w0) trodAll_mk0), rfl, bel.frame _, fun h => by cases h⟩

theorem over : Rows.lexBytesRow.holds Try.pinned (OpenSpec.ofChange Rows.lexBytesSpec) :=
  OpenClaim.holds_of_wide 6 Try.f6 rfl rfl rfl rfl rfl rfl rfl ⟨rfl, rfl, rfl, rfl, rfl⟩ rfl rfl rfl rfl rfl (by kernel_rfl) Try.func6 (by kernel_rfl)
    (of_decide_eq_true (by kernel_rfl)) (by unfold Func.isWrapper; first | (rw [if_pos (by decide +kernel)]; kernel_rfl) | (rw [if_neg (by decide +kernel)]; exact ⟨rfl, rfl⟩))
    (fun os started H enc _ => lifted os started H enc)

theorem proved : Rows.LexBytesSaid := over
#print axioms proved
end Go.Proofs.Ytomnomljljkdfaa.lexBytes

