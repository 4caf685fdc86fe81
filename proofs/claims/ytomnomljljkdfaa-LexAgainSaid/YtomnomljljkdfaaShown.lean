/- The small case with which each statement of lex begins returns true. Conditions: none. -/
import Derived.Test.YtomnomljljkdfaaPlain
import Derived.Lib.SlBytesConst
import Derived.Lib.SmallJoins
namespace Go.Proofs.Ytomnomljljkdfaa
open Go.RowKit
set_option linter.unusedVariables false

theorem Row.of_mark (w : World) (t : TypeId) (fr : Nat × Nat) (zs : List Int) (C : Array Value) (hC : C = (zs.map (Value.int .u8)).toArray) (n : Nat) (hn : n = zs.length) : Row (w.alloc (.cells C t fr)) (some ⟨w.heap.size, 0, none⟩) n (fun i => .int .u8 (zs.getD i 0)) := by
  subst hC hn
  intro i hi
  refine ⟨_, 0, rfl, ?_⟩
  rw [World.cell?_alloc_mark w _ t fr (0 + i)]
  simp [hi]

theorem info5 : (Try.prog.info? 5).map (fun i => (i.zero, i.size, i.bytes)) = some (some (.int .u8 0), 1, 1) := by kernel_rfl

theorem lex_long (a : Option Addr) (n cap : Nat) (w : World) (hn : 65536 < n) :
    Calls Try.prog 11 #[.slice a n cap] w fun e w' => e = .returned (.tuple #[.slice none 0 0, .int .i64 0, .int .i64 1]) ∧ w' = w := by
  go_enter Try.func11, Try.ntmps11
  go_wp2_with fail
  go_step3
  go_wp2_with fail
  rw [Exit.noGoto_ret]
  go_ret3
  exact ⟨rfl, rfl⟩

/-- Lex of bytes that are written out: the tokens are computed. -/
theorem lex_lit (a : Option Addr) (n cap : Nat) (z : Nat → Int) (w : World) (hr : Row w a n (fun i => .int .u8 (z i))) (hz : ∀ j, j < n → 0 ≤ z j ∧ z j ≤ 255) (hn : n ≤ 65536) (l : List Tok) (r : Option Nat) (hl : lexF n z (n + 1) 0 = (l, r)) :
    Calls Try.prog 11 #[.slice a n cap] w fun e w' => Told w w' n z l r e ∧ Below w.heap.size w w' := by
  refine (lex_any a n cap z w hr hz hn).mono ?_
  rintro e w' ⟨⟨l', r', h1, h2⟩, h3⟩
  have := h1.eq (n + 1) (by omega)
  rw [hl] at this
  injection this with e1 e2
  subst e1 e2
  exact ⟨h2, h3⟩

def lit1 : List Int := [120, 61, 61, 49, 59, 32, 35, 32, 110, 111, 10, 61, 32, 61]
def lit2 : List Int := [97, 98, 32, 49, 120]
def lit3 : List Int := [97, 46, 98]
theorem lit1_lex : lexF 14 (fun i => lit1.getD i 0) 15 0 = ([⟨1, 0, 1⟩, ⟨3, 1, 2⟩, ⟨2, 3, 1⟩, ⟨3, 4, 1⟩, ⟨3, 11, 1⟩, ⟨3, 13, 1⟩], none) := by rfl
theorem lit2_lex : lexF 5 (fun i => lit2.getD i 0) 6 0 = ([⟨1, 0, 2⟩], some 4) := by rfl
theorem lit3_lex : lexF 3 (fun i => lit3.getD i 0) 4 0 = ([⟨1, 0, 1⟩], some 1) := by rfl

set_option maxRecDepth 100000 in
set_option maxHeartbeats 4000000 in
theorem shown_any (w : World) : Calls Try.prog 10 #[] w fun e w' => e = .returned (.bool true) ∧ Below w.heap.size w w' := by
  have hcv1 := Lib.run_convert_bytes_const (P := Try.prog) w 22 5 #[Value.int IntKind.u8 120, Value.int IntKind.u8 61, Value.int IntKind.u8 61, Value.int IntKind.u8 49, Value.int IntKind.u8 59, Value.int IntKind.u8 32, Value.int IntKind.u8 35, Value.int IntKind.u8 32, Value.int IntKind.u8 110, Value.int IntKind.u8 111, Value.int IntKind.u8 10, Value.int IntKind.u8 61, Value.int IntKind.u8 32, Value.int IntKind.u8 61] 14 14 Try.underlying22 Try.underlying5
  have hr1 := Row.of_mark w 5 (14, 15) lit1 #[Value.int IntKind.u8 120, Value.int IntKind.u8 61, Value.int IntKind.u8 61, Value.int IntKind.u8 49, Value.int IntKind.u8 59, Value.int IntKind.u8 32, Value.int IntKind.u8 35, Value.int IntKind.u8 32, Value.int IntKind.u8 110, Value.int IntKind.u8 111, Value.int IntKind.u8 10, Value.int IntKind.u8 61, Value.int IntKind.u8 32, Value.int IntKind.u8 61] rfl 14 rfl
  go_enter Try.func10, Try.ntmps10
  go_wp2_with fail
  refine (lex_lit (some ⟨w.heap.size, 0, none⟩) 14 14 (fun i => lit1.getD i 0) _ hr1 (by decide) (by omega) _ _ lit1_lex).mono ?_
  rintro e w1 ⟨⟨g, cap, cs, rfl, hg, hB, hc, hcs⟩, hb1⟩
  have hs1 := hb1.size
  have hcs := hid hcs
  clear hcv1 hr1
  have hcv2 := Lib.run_convert_bytes_const (P := Try.prog) w1 22 5 #[Value.int IntKind.u8 97, Value.int IntKind.u8 98, Value.int IntKind.u8 32, Value.int IntKind.u8 49, Value.int IntKind.u8 120] 5 5 Try.underlying22 Try.underlying5
  have hr2 := Row.of_mark w1 5 (5, 6) lit2 #[Value.int IntKind.u8 97, Value.int IntKind.u8 98, Value.int IntKind.u8 32, Value.int IntKind.u8 49, Value.int IntKind.u8 120] rfl 5 rfl
  go_wp2_with fail
  refine (lex_lit (some ⟨w1.heap.size, 0, none⟩) 5 5 (fun i => lit2.getD i 0) _ hr2 (by decide) (by omega) _ _ lit2_lex).mono ?_
  rintro e w2 ⟨rfl, hb2⟩
  have hs2 := hb2.size
  clear hcv2 hr2
  have hcv3 := Lib.run_convert_bytes_const (P := Try.prog) w2 22 5 #[Value.int IntKind.u8 97, Value.int IntKind.u8 46, Value.int IntKind.u8 98] 3 3 Try.underlying22 Try.underlying5
  have hr3 := Row.of_mark w2 5 (3, 4) lit3 #[Value.int IntKind.u8 97, Value.int IntKind.u8 46, Value.int IntKind.u8 98] rfl 3 rfl
  go_wp2_with fail
  refine (lex_lit (some ⟨w2.heap.size, 0, none⟩) 3 3 (fun i => lit3.getD i 0) _ hr3 (by decide) (by omega) _ _ lit3_lex).mono ?_
  rintro e w3 ⟨rfl, hb3⟩
  have hs3 := hb3.size
  clear hcv3 hr3
  obtain ⟨i5, hi5, hz50, hz51, hz52⟩ := info_parts info5
  have hb5 : i5.bytes * 65537 ≤ 281474976710656 := by rw [hz52]; omega
  have h65 : 65537 ≤ maxLen := by unfold maxLen; omega
  have hw3 : w.heap.size ≤ w3.heap.size := by simp at hs1 hs2 hs3; omega
  go_wp2_with (at_make
               refine wpList_make_full w3 rfl (.const (.int .i64 65537)) (.const (.int .i64 65537)) 22 rfl w.heap.size 5 i5 (.int .u8 0) 1 Try.underlying22 hi5 hz50 hz51 .i64 .i64 65537 65537 65537 rfl rfl rfl rfl hb5 h65 hw3 ?_
               intro w4 hown4 hg4)
  refine (lex_long _ _ _ _ (by omega)).mono ?_
  rintro e w5 ⟨rfl, rfl⟩
  have hB2 := (hB.alloc (Obj.cells #[Value.int IntKind.u8 97, Value.int IntKind.u8 98, Value.int IntKind.u8 32, Value.int IntKind.u8 49, Value.int IntKind.u8 120] 5 (5, 6))).below hb2 (hB.alloc _).lt
  have hB3 := (hB2.alloc (Obj.cells #[Value.int IntKind.u8 97, Value.int IntKind.u8 46, Value.int IntKind.u8 98] 5 (3, 4))).below hb3 (hB2.alloc _).lt
  have hB4 : Blk w5 g 32 cs := (hg4.block g hB3.lt (by simp)).trans hB3
  have c4 : w5.cell? ⟨g, 4, none⟩ = some (.string ⟨#[61, 61]⟩) := (hB4.cell 4).trans ((hcs 4 (by decide)).trans rfl)
  have c3 : w5.cell? ⟨g, 3, none⟩ = some (.int .i64 3) := (hB4.cell 3).trans ((hcs 3 (by decide)).trans rfl)
  have c6 : w5.cell? ⟨g, 6, none⟩ = some (.int .i64 2) := (hB4.cell 6).trans ((hcs 6 (by decide)).trans rfl)
  have c13 : w5.cell? ⟨g, 13, none⟩ = some (.string ⟨#[61]⟩) := (hB4.cell 13).trans ((hcs 13 (by decide)).trans rfl)
  have c17 : w5.cell? ⟨g, 17, none⟩ = some (.int .i64 13) := (hB4.cell 17).trans ((hcs 17 (by decide)).trans rfl)
  have c18 : w5.cell? ⟨g, 18, none⟩ = some (.int .i64 4) := (hB4.cell 18).trans ((hcs 18 (by decide)).trans rfl)
  have c20 : w5.cell? ⟨g, 20, none⟩ = some (.int .i64 14) := (hB4.cell 20).trans ((hcs 20 (by decide)).trans rfl)
  have hbb : Below w.heap.size w w5 := by
    have e1 := ((Below.refl w.heap.size w).alloc (Nat.le_refl _) (Obj.cells #[Value.int IntKind.u8 120, Value.int IntKind.u8 61, Value.int IntKind.u8 61, Value.int IntKind.u8 49, Value.int IntKind.u8 59, Value.int IntKind.u8 32, Value.int IntKind.u8 35, Value.int IntKind.u8 32, Value.int IntKind.u8 110, Value.int IntKind.u8 111, Value.int IntKind.u8 10, Value.int IntKind.u8 61, Value.int IntKind.u8 32, Value.int IntKind.u8 61] 5 (14, 15))).trans (hb1.mono (by simp))
    have e2 := (e1.alloc e1.size (Obj.cells #[Value.int IntKind.u8 97, Value.int IntKind.u8 98, Value.int IntKind.u8 32, Value.int IntKind.u8 49, Value.int IntKind.u8 120] 5 (5, 6))).trans (hb2.mono (by have := e1.size; simp; omega))
    have e3 := (e2.alloc e2.size (Obj.cells #[Value.int IntKind.u8 97, Value.int IntKind.u8 46, Value.int IntKind.u8 98] 5 (3, 4))).trans (hb3.mono (by have := e2.size; simp; omega))
    exact e3.grown hg4 e3.size (fun k hk => by cases hk)
  clear hcs hB hB2 hB3 hB4 hb1 hb2 hb3 hown4 hg4
  go_wp2_with fail
  go_ret
  exact ⟨rfl, hbb⟩
end Go.Proofs.Ytomnomljljkdfaa
