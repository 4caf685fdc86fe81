/- ProfilePlays: a profile is what the document says, proved for any functions and any calls. Conditions: none. -/
import Derived.Test.YtemdojckeghbjaaPq
import Derived.Test.YtemdojckeghbjaaOpen
import Derived.ProofKit
import Derived.OpenShut
import Derived.ShutString
import Derived.ChangeOld
import Derived.Deep.Grids
namespace Go.Proofs.Ytemdojckeghbjaa
open Go.RowKit
set_option linter.unusedVariables false
attribute [local go_sem] maxI minI

theorem info3 : (Try.prog.info? 3).map (fun i => (i.zero, i.size, i.bytes)) = some (some (.int .i64 0), 1, 8) := by kernel_rfl
theorem i64_mask2 (n : Int) : bits .and .i64 n 3 = n % 4 := by
  have h127 : (BitVec.ofInt 64 3).toNat = 2 ^ 2 - 1 := by decide
  have key : (BitVec.ofInt 64 n &&& BitVec.ofInt 64 3).toNat = (n % ((2 ^ 64 : Nat) : Int)).toNat % 2 ^ 2 := by
    rw [BitVec.toNat_and, BitVec.toNat_ofInt, h127, Nat.and_two_pow_sub_one_eq_mod]
  show IntKind.i64.wrap ((BitVec.ofInt 64 n &&& BitVec.ofInt 64 3).toNat : Nat) = _
  rw [key, IntKind.wrap_i64]
  omega

/-- What a copy of a row leaves: a block of its own. -/
theorem copy_row {q : Nat} {cs : Array Value} {x : Nat → Int} (hcs : ∀ j, j < (0 + q) * 1 → cs[j]? = ([] ++ vals x q)[j]?) : ∀ j, j < q → cs[j]? = some (.int .i64 (x j)) := by
  intro j hj
  rw [hcs j (by omega)]
  exact vals_get x q j hj

theorem PQ.not {w : World} {gp gl cap gq n pc g4 : Nat} {z : Nat → Int} {v : Value} {st : Nat → Nat → Int} {L : List CallD} (h : PQ w gp gl cap gq (some ⟨g4, 0, none⟩) n pc z v st L) {g t : Nat} {cs : Array Value} (hb : Blk w g t cs) (ht : t = 2 ∨ t = 33) (h4 : g4 ≠ g) (he : ∀ e ∈ L, g ≠ e.b) : ¬ Theirs gp gl gq (some ⟨g4, 0, none⟩) n v L g := by
  rintro (e | ⟨hn, e⟩ | e | ⟨_, b, off, e, e2⟩ | e | ⟨d, hd, e⟩)
  · exact Blk.ne_ h.p.own hb (by rcases ht with rfl | rfl <;> decide) e.symm
  · obtain ⟨cur, hc, _⟩ := h.p.rows hn
    exact Blk.ne_ hc hb (by rcases ht with rfl | rfl <;> decide) e.symm
  · exact Blk.ne_ h.q.own hb (by rcases ht with rfl | rfl <;> decide) e.symm
  · injection e with e
    injection e with e
    exact h4 (e.trans e2.symm)
  · exact own_ne h.q.rows hb (by rcases ht with rfl | rfl <;> decide) e
  · exact he d hd e
theorem PQ.old {w : World} {gp gl cap gq n pc : Nat} {A : Option Addr} {z : Nat → Int} {v : Value} {st : Nat → Nat → Int} {L : List CallD} (h : PQ w gp gl cap gq A n pc z v st L) : ∀ e ∈ L, e.b < w.heap.size := fun e he => by
  obtain ⟨cs, hc, _⟩ := h.q.args e he
  exact hc.lt

theorem see_an0 (gp gl n cap : Nat) (st : Nat → Nat → Int) (fn : Int) (w : World) (ga q c : Nat) (x : Nat → Int) (h : IsP w gp gl n cap st) (hA : Row w (some ⟨ga, 0, none⟩) q (fun j => .int .i64 (x j))) (hne : 0 < n → ga ≠ gl) (hgp : gp ≠ gl) :
    Calls Try.prog 11 #[.pointer (some ⟨gp, 0, none⟩), .int .i64 fn, .slice (some ⟨ga, 0, none⟩) q c] w fun e w' => e = .returned (.int .i64 (seeE n st fn q)) ∧ IsP w' gp gl n cap (seeS n st fn x q) ∧ UpdN n gl w w' := by
  by_cases hn : 0 < n
  · refine see_any gp gl n cap st fn w _ q c x h hA (fun b off _ e => ?_) hgp
    injection e with e
    injection e with e
    exact e ▸ hne hn
  · have hf : fn < 0 ∨ (n : Int) ≤ fn := by omega
    unfold seeE seeS
    rw [if_pos hf, if_pos hf]
    exact (see_none gp gl n cap st fn _ q c w h hf).mono fun e w' ⟨h1, h2⟩ => ⟨h1, by rw [h2]; exact ⟨h, UpdN.refl _ _ _⟩⟩

theorem rcalls_an {w : World} {gp gl cap gq n pc : Nat} {A : Option Addr} {z : Nat → Int} {v : Value} {st : Nat → Nat → Int} {L : List CallD} (h : PQ w gp gl cap gq A n pc z v st L) (fn C : Int) (hC : callsV n st fn = C) (hL : L.length ≤ 100000) :
    Calls Try.prog 13 #[.pointer (some ⟨gq, 0, none⟩), .int .i64 fn] w fun e w' => e = .returned (.int .i64 C) ∧ w' = w := by
  subst hC
  rw [callsV_eq h fn]
  exact rcalls_any gq n pc A z v L fn w h.q hL
theorem rvalue_an {w : World} {gp gl cap gq n pc : Nat} {A : Option Addr} {z : Nat → Int} {v : Value} {st : Nat → Nat → Int} {L : List CallD} (h : PQ w gp gl cap gq A n pc z v st L) (fn k V T : Int) (hV : valV n st fn k = V) (hT : valT n st fn k = T) (hL : L.length ≤ 100000) :
    Calls Try.prog 15 #[.pointer (some ⟨gq, 0, none⟩), .int .i64 fn, .int .i64 k] w fun e w' => e = .returned (.tuple #[.int .i64 V, .int .i64 T]) ∧ Below w.heap.size w w' := by
  subst hV hT
  exact rvalue_any h fn k hL

set_option maxRecDepth 100000 in
set_option maxHeartbeats 8000000 in
theorem plays_walk (a0 : Option Addr) (len0 cap0 : Nat) (z : Nat → Int) (a1 : Option Addr) (len cap1 : Nat) (s : Nat → StepD) (w : World) (hz : Row w a0 len0 (fun i => .int .i64 (z i))) (hcap : len0 ≤ cap0) (hm0 : cap0 ≤ 9223372036854775807) (hs : Steps w a1 len s) :
    Calls Try.prog 3 #[.slice a0 len0 cap0, .slice a1 len cap1] w fun e w' => e = .returned (.bool true) ∧ Below w.heap.size w w' := by
  have HZ := hid hz
  have HS := hid hs
  clear hz hs
  obtain ⟨n, hn⟩ : ∃ n : Nat, min (len0 : Int) 12 = n := ⟨min len0 12, by omega⟩
  have hn12 : n ≤ 12 := by omega
  have hnl : n ≤ len0 := by omega
  have HN := hid hn
  obtain ⟨i3, hi3, hz30, hz31, hz32⟩ := info_parts info3
  obtain ⟨i2, hi2, hz20, hz21, hz22⟩ := info_parts info2'
  have hu30 := Try.underlying30
  have hu33 := Try.underlying33
  go_enter Try.func3, Try.ntmps3
  go_wp2_with fail
  refine (shown_any _).mono ?_
  rintro e w1 ⟨rfl, hB⟩
  have hsrc : Hid (∀ ad, a0 = some ad → ∀ j u, (vals z n)[j]? = some u → (w1.alloc (Obj.cells #[] 3)).cell? (ad.add j) = some u) := by
    rintro ⟨b, off, sp⟩ e j u hu
    have hj : j < n := by
      have := (List.getElem?_eq_some_iff.1 hu).1
      simpa [vals_len] using this
    obtain ⟨b', off', e', hc⟩ := HZ.out j (by omega)
    rw [e] at e'
    injection e' with e'
    injection e' with e1 e2 e3
    subst e1 e2 e3
    exact vals_cells (((HZ.out.le hnl).kept (hB.alloc hB.size _)) |> (e ▸ ·)) j u hu
  have hnil : Hid (a0 = none → n = 0) := fun e => by
    by_cases h0 : n = 0
    · exact h0
    · obtain ⟨b, off, e', _⟩ := HZ.out 0 (by omega)
      rw [e] at e'; cases e'
  have h63 : 0 + n ≤ maxLen := by unfold maxLen; omega
  go_wp2_with (at_builtin
               refine wpList_onto rfl (.tmp 21) (.tmp 26) 22 rfl w1.heap.size 3 i3 (.int .i64 0) 1 8 Try.underlying22 hi3 hz30 hz31 hz32 rfl (by omega) (.slice (some ⟨w1.heap.size, 0, none⟩) 0 0) 0 [] rfl (own_empty w1 3 1) a0 n cap0 (vals z n) rfl (by simp [vals_len]) hsrc.out hnil.out (vals_one z n) h63 (by omega) (by simp) ?_
               intro v2 w2 hown2 hg2 hform2 hat2
               obtain ⟨g0, c0, cs0, hv2, hg0b, hB0, hsz0, hnc0, hcs0⟩ := own_form hown2 (form_ne hform2 (by simp))
               rw [Nat.zero_add] at hv2
               subst hv2)
  have hx0 := copy_row hcs0
  have hgr : w.heap.size ≤ g0 := Nat.le_trans hB.size hg0b
  have hB2 : Below w.heap.size w w2 := (hB.alloc hB.size (Obj.cells #[] 3)).trans ⟨hg2.os, hg2.tape, hg2.output, hg2.size, fun k hk => hg2.block k (by have := hB.size; simp; omega) (by have := hB.size; simp [Value.ownBlock]; omega)⟩
  have hg0l := hB0.lt
  have HX0 := hid hx0
  clear hsrc hnil hown2 hg2 hform2 hat2 hcs0 hx0 hB
  refine (new_any (some ⟨g0, 0, none⟩) n c0 z _ (by omega) (Row.of_blk hB0 HX0.out)).mono ?_
  rintro e w3 ⟨rfl, gl, cap, hP, hgl, hB3⟩
  have hB0' : Blk w3 g0 3 cs0 := hB0.below hB3 hg0l
  have hs2 := hB2.size
  have hB3' : Below w.heap.size w w3 := hB2.trans (hB3.mono hs2)
  have hgp := hP.gp_lt
  generalize w2.heap.size = gp at hP hgl hg0l hs2 hgp ⊢
  clear hB0 hB2 hB3
  have hsrc : Hid (∀ ad, some (⟨g0, 0, none⟩ : Addr) = some ad → ∀ j u, (vals z n)[j]? = some u → (w3.alloc (Obj.cells #[] 3)).cell? (ad.add j) = some u) := by
    intro ad e
    injection e with e
    subst e
    exact vals_cells (Row.of_blk (hB0'.alloc _) HX0.out)
  go_wp2_with (at_builtin
               refine wpList_onto rfl (.tmp 30) (.tmp 31) 22 rfl w3.heap.size 3 i3 (.int .i64 0) 1 8 Try.underlying22 hi3 hz30 hz31 hz32 rfl (by omega) (.slice (some ⟨w3.heap.size, 0, none⟩) 0 0) 0 [] rfl (own_empty w3 3 1) (some ⟨g0, 0, none⟩) n c0 (vals z n) rfl (by simp [vals_len]) hsrc.out (fun e => by cases e) (vals_one z n) h63 (by omega) (by simp) ?_
               intro v4 w4 hown4 hg4 hform4 hat4
               obtain ⟨g4, c4, cs4, hv4, hg4b, hB4, hsz4, hnc4, hcs4⟩ := own_form hown4 (form_ne hform4 (by simp))
               rw [Nat.zero_add] at hv4
               subst hv4)
  have hs34 : w3.heap.size + 1 ≤ w4.heap.size := by simpa using hg4.size
  have k34 : ∀ g, g < w3.heap.size → w4.heap[g]? = w3.heap[g]? := fun g hg => (hg4.block g (by simp; omega) (by simp [Value.ownBlock]; omega)).trans (Below.heap_alloc w3 _ g hg)
  have hP4 : IsP w4 gp gl n cap (init z) := hP.kept fun g hg _ => k34 g hg
  have hgl3 := hP.gl_lt
  have hB04 : Blk w4 g0 3 cs0 := (k34 g0 hB0'.lt).trans hB0'
  have hB4' : Below w.heap.size w w4 := hB3'.trans ⟨hg4.os, hg4.tape, hg4.output, by omega, fun k hk => k34 k (by have := hB3'.size; omega)⟩
  have hg4l := hB4.lt
  have hX4 := copy_row hcs4
  have hpq : PQ (w4.alloc (Obj.cells #[Value.slice (some ⟨g4, 0, none⟩) n c4, Value.slice none 0 0] 30)) gp gl cap w4.heap.size (some ⟨g4, 0, none⟩) n c4 z (.slice none 0 0) (init z) [] := by
    refine ⟨hP4.alloc _, ⟨Blk.new _ _ _, Row.of_blk (hB4.alloc _) hX4, World.ownsRow_nil _ _ _ _, (fun e he => by cases he), (fun h0 b off e => ?_)⟩, Rel.start n z, (fun e he => by cases he), by omega, (fun h0 b off e => ?_)⟩
    · injection e with e
      injection e with e
      exact ⟨by omega, by simp [Value.ownBlock]⟩
    · injection e with e
      injection e with e
      have := hgl3 h0
      exact ⟨by omega, by omega⟩
  have hB05 := hB04.alloc (Obj.cells #[Value.slice (some ⟨g4, 0, none⟩) n c4, Value.slice none 0 0] 30)
  have hB5 := hB4'.alloc hB4'.size (Obj.cells #[Value.slice (some ⟨g4, 0, none⟩) n c4, Value.slice none 0 0] 30)
  have hgq0 : w.heap.size ≤ w4.heap.size := hB4'.size
  have hg0x : g0 < gp ∧ g0 < gl ∧ g0 < w4.heap.size ∧ g0 < g4 := by omega
  have hsz0' : n ≤ cs0.size := by omega
  generalize (w4.alloc (Obj.cells #[Value.slice (some ⟨g4, 0, none⟩) n c4, Value.slice none 0 0] 30)) = w5 at hpq hB05 hB5 ⊢
  generalize w4.heap.size = gq at hpq hgq0 hg0x hg4l ⊢
  have hth0 : Hid (¬ Theirs gp gl gq (some ⟨g4, 0, none⟩) n (.slice none 0 0) [] g0) := by
    rintro (e | ⟨_, e⟩ | e | ⟨_, b, off, e, e2⟩ | e | ⟨e, he, _⟩)
    · omega
    · omega
    · omega
    · injection e with e
      injection e with e
      omega
    · simp [Value.ownBlock] at e
    · cases he
  clear hP4 hB04 hB4' hX4 hgl3 k34 hsrc hown4 hg4 hform4 hat4 hcs4 hB4 hP hB0' hB3'
  go_loopw [8] (fun i wr => ∃ (k : Nat) (cs : Array Value), k ≤ n ∧ i = .int .i64 k ∧ Blk wr g0 3 cs ∧ n ≤ cs.size ∧ PQ wr gp gl cap gq (some ⟨g4, 0, none⟩) n c4 z (.slice none 0 0) (init z) [] ∧ Below w.heap.size w wr)
    (fun i _ => n - (intOf i).toNat)
  case atStart => exact ⟨0, cs0, Nat.zero_le _, rfl, hB05, hsz0', hpq, hB5⟩
  case round =>
    obtain ⟨k, cs, hk, rfl, hbk, hcs, hpq, hb⟩ := hrel
    by_cases hlt : k < n
    · have hck : wr.cell? ⟨g0, k, none⟩ = some (cs[k]'(by omega)) := (hbk.cell k).trans (Array.getElem?_eq_getElem (by omega))
      have hfk := hbk.fz k
      go_wp2_with fail
      go_roundw
      case rel => exact ⟨k + 1, _, by omega, by go_num, hbk.set k _, by simpa using hcs, hpq.setCell g0 k _ hth0.out, hb.setCell hgr _⟩
      case measure => simp [intOf]; omega
    · clear hbk hcs
      go_wp2_with fail
      clear HX0 hlt hk
      go_loopw [9] (fun i wr => ∃ (k : Nat) (v : Value) (st : Nat → Nat → Int) (L : List CallD), k ≤ len ∧ i = .int .i64 k ∧ PQ wr gp gl cap gq (some ⟨g4, 0, none⟩) n c4 z v st L ∧ L.length ≤ 3 * k ∧ Hid (∀ g, v.ownBlock = some g → w.heap.size ≤ g) ∧ Below w.heap.size w wr)
        (fun i _ => len - (intOf i).toNat)
      case atStart => exact ⟨0, _, _, _, Nat.zero_le _, rfl, hpq, by simp, (fun g e => by simp [Value.ownBlock] at e), hb⟩
      case round =>
        obtain ⟨k, v, st, L, hk, rfl, hpq, hL, hv, hb⟩ := hrel
        by_cases hlt : k < len
        · by_cases h60 : k < 60
          · obtain ⟨b, off, rfl, hd0⟩ := HS.out k hlt
            have hd := hd0.kept hb
            have hbs : b < w.heap.size := World.block_lt_of_cell? _ _ hd0.c0
            have hrow0 := hd0.row
            clear hd0
            generalize s k = d at hd hrow0
            obtain ⟨fn, tm, A, m, c, x⟩ := d
            obtain ⟨c0, c1, c2, hmc, hcm, hrow⟩ := hd
            dsimp only at c0 c1 c2 hmc hcm hrow hrow0
            unfold maxLen at hcm
            have HR : Hid (Row w A m (fun j => .int .i64 (x j))) := hrow0
            clear hrow hrow0
            obtain ⟨q, hq⟩ : ∃ q : Nat, min (m : Int) 10 = q := ⟨min m 10, by omega⟩
            have hq10 : q ≤ 10 := by omega
            have hqm : q ≤ m := by omega
            obtain ⟨T, hT, hT3⟩ : ∃ T : Nat, bits BinOp.and .i64 tm 3 = T ∧ T ≤ 3 := ⟨(tm % 4).toNat, by rw [i64_mask2]; omega, by omega⟩
            go_wp2_with fail
            have hpq := hpq.alloc (Obj.cells #[Value.int IntKind.i64 fn, Value.int IntKind.i64 tm, Value.slice A m c] 33)
            have hgs := Blk.new wr 33 #[Value.int IntKind.i64 fn, Value.int IntKind.i64 tm, Value.slice A m c]
            have hb := hb.alloc hb.size (Obj.cells #[Value.int IntKind.i64 fn, Value.int IntKind.i64 tm, Value.slice A m c] 33)
            have hgs0 : w.heap.size ≤ wr.heap.size := by have := hb.size; have := hpq.q.own.lt; exact Nat.le_trans hgq0 (by have h := hgs.lt; simp at h; exact Nat.le_of_lt_succ (by simpa using this))
            have H60 := hid h60
            have d60 : decide ((k : Int) < 60) = true := by simp; omega
            simp only [d60]
            clear c0 c1 c2 hbs h60 d60
            generalize (wr.alloc (Obj.cells #[Value.int IntKind.i64 fn, Value.int IntKind.i64 tm, Value.slice A m c] 33)) = w6 at hpq hgs hb ⊢
            generalize wr.heap.size = gs at hgs hgs0 ⊢
            go_loopw [11] (fun i wr => ∃ (j : Nat) (v : Value) (st : Nat → Nat → Int) (L : List CallD), j ≤ 3 ∧ i = .int .i64 j ∧ PQ wr gp gl cap gq (some ⟨g4, 0, none⟩) n c4 z v st L ∧ L.length ≤ 3 * k + j ∧ Hid (∀ g, v.ownBlock = some g → w.heap.size ≤ g) ∧ Blk wr gs 33 #[Value.int IntKind.i64 fn, Value.int IntKind.i64 tm, Value.slice A m c] ∧ Below w.heap.size w wr)
              (fun i _ => 3 - (intOf i).toNat)
            case atStart => exact ⟨0, _, _, _, by omega, rfl, hpq, hL, hv, hgs, hb⟩
            case round =>
              clear hpq hL hv hgs hb
              obtain ⟨j, v, st, L, hj, rfl, hpq, hL, hv, hgs, hb⟩ := hrel
              have s0 := hgs.cell 0
              have s1 := hgs.cell 1
              have s2 := hgs.cell 2
              by_cases hc : j ≤ T ∧ j < 3
              · obtain ⟨hjT, hj3⟩ := hc
                have a2 := (hgs.alloc (Obj.cells #[] 2)).cell 2
                have HRw : Hid (Row wr A q (fun j => .int .i64 (x j))) := (HR.out.le hqm).kept hb
                have hsrc : Hid (∀ ad, A = some ad → ∀ j u, (vals x q)[j]? = some u → (wr.alloc (Obj.cells #[] 2)).cell? (ad.add j) = some u) := by
                  rintro ⟨b', off', sp⟩ e j u hu
                  have hj : j < q := by
                    have := (List.getElem?_eq_some_iff.1 hu).1
                    simpa [vals_len] using this
                  obtain ⟨b2, off2, e', hc⟩ := HRw.out j (by omega)
                  rw [e] at e'
                  injection e' with e'
                  injection e' with e1 e2 e3
                  subst e1 e2 e3
                  exact vals_cells ((HRw.out.kept ((Below.refl _ _).alloc (Nat.le_refl _) _)) |> (e ▸ ·)) j u hu
                have hnil : Hid (A = none → q = 0) := fun e => by
                  by_cases h0 : q = 0
                  · exact h0
                  · obtain ⟨b, off, e', _⟩ := HRw.out 0 (by omega)
                    rw [e] at e'; cases e'
                have h63q : 0 + q ≤ maxLen := by unfold maxLen; omega
                go_wp2_with (at_builtin
                             refine wpList_onto rfl (.tmp 71) (.tmp 78) 31 rfl wr.heap.size 2 i2 (.int .i64 0) 1 8 Try.underlying31 hi2 hz20 hz21 hz22 rfl (by omega) (.slice (some ⟨wr.heap.size, 0, none⟩) 0 0) 0 [] rfl (own_empty wr 2 1) A q c (vals x q) rfl (by simp [vals_len]) hsrc.out hnil.out (vals_one x q) h63q (by omega) (by simp) ?_
                             intro v7 w7 hown7 hg7 hform7 hat7
                             obtain ⟨ga, ca, csa, hv7, hga7, hB7, hsz7, hnc7, hcs7⟩ := own_form hown7 (form_ne hform7 (by simp))
                             rw [Nat.zero_add] at hv7
                             subst hv7
                             have k7 : Hid (∀ g, g < wr.heap.size → w7.heap[g]? = wr.heap[g]?) := fun g hg => (hg7.block g (by simp; omega) (by simp [Value.ownBlock]; omega)).trans (Below.heap_alloc wr _ g hg)
                             have hgs7 : Blk w7 gs 33 #[Value.int IntKind.i64 fn, Value.int IntKind.i64 tm, Value.slice A m c] := (k7.out gs hgs.lt).trans hgs
                             have t0 := hgs7.cell 0)
                have hs7 : wr.heap.size ≤ w7.heap.size := by have := hg7.size; simp at this; omega
                have hpq7 := hpq.kept hs7 fun g hg _ => k7.out g hg
                have hb7 : Below w.heap.size w w7 := hb.trans ⟨hg7.os, hg7.tape, hg7.output, hs7, fun g hg => k7.out g (by have := hb.size; omega)⟩
                have hX7 := hid (copy_row hcs7)
                have hq7 : q ≤ csa.size := by omega
                have hold := hid hpq.old
                have hgqr := hpq.q.own.lt
                clear hsrc hnil hown7 hg7 hform7 hat7 hcs7 a2 s0 s1 s2 HRw k7 hsz7 hnc7 hgs hpq hb hs7
                obtain ⟨E, hE⟩ : ∃ E, seeE n st fn q = E := ⟨_, rfl⟩
                have HE := hid hE
                clear hE
                refine (rsee_any hpq7 fn ga q ca x (Row.of_blk hB7 hX7.out) (by have := H60.out; omega)).mono ?_
                rintro e w8 ⟨rfl, v', L', r⟩
                rw [HE.out]
                have hgs8 : Blk w8 gs 33 #[Value.int IntKind.i64 fn, Value.int IntKind.i64 tm, Value.slice A m c] := (r.block gs hgs7.lt (Blk.ne_ hgs7 hpq7.q.own (by decide)) (own_ne hpq7.q.rows hgs7 (by decide))).trans hgs7
                have hB8 : Blk w8 ga 2 csa := (r.block ga hB7.lt (Blk.ne_ hB7 hpq7.q.own (by decide)) (own_ne hpq7.q.rows hB7 (by decide))).trans hB7
                have hb8 : Below w.heap.size w w8 := hb7.trans ⟨r.os, r.tape, r.output, r.size, fun g hg => r.block g (by have := hb7.size; omega) (by omega) (fun e => by have := hv.out g e; omega)⟩
                have hP8 := r.p hpq7
                have t8 := hgs8.cell 0
                go_wp2_with fail
                refine (see_an0 gp gl n cap st fn _ ga q ca x hP8 (Row.of_blk hB8 hX7.out) (fun hn => by obtain ⟨cur, hc, _⟩ := hP8.rows hn; exact Blk.ne_ hB8 hc (by decide)) hpq7.pl).mono ?_
                rintro e w9 ⟨rfl, hp9, u9⟩
                rw [HE.out]
                have hpq9 := r.both hpq7 hp9 u9
                have hgs9 : Blk w9 gs 33 #[Value.int IntKind.i64 fn, Value.int IntKind.i64 tm, Value.slice A m c] := (u9.block hgs8.lt (fun hn => by obtain ⟨cur, hc, _⟩ := hP8.rows hn; exact Blk.ne_ hgs8 hc (by decide))).trans hgs8
                have hB9 : Blk w9 ga 2 csa := (u9.block hB8.lt (fun hn => by obtain ⟨cur, hc, _⟩ := hP8.rows hn; exact Blk.ne_ hB8 hc (by decide))).trans hB8
                have hb9 := hb8.trans (u9.below (fun hn => by omega) hb8.size)
                have hv9 : Hid (∀ g, v'.ownBlock = some g → w.heap.size ≤ g) := fun g e => by
                  rcases r.own g e with e | e
                  · exact hv.out g e
                  · have := hb7.size; omega
                have hL9 : L'.length ≤ 3 * k + (j + 1) := by have := r.len; omega
                have hth : Hid (¬ Theirs gp gl gq (some ⟨g4, 0, none⟩) n v' L' ga) := hpq9.not hB9 (.inl rfl) (by omega) fun e he => by
                  rcases r.new e he with h | h
                  · have := hold.out e h; omega
                  · have := hB7.lt; omega
                have hgane : gs ≠ ga := Blk.ne_ hgs9 hB9 (by decide)
                have hgaw : w.heap.size ≤ ga := by omega
                obtain ⟨st9, hst9⟩ : ∃ s, seeS n st fn x q = s := ⟨_, rfl⟩
                rw [hst9] at hpq9
                clear hst9 hp9 hP8 u9 r hB8 hgs8 hb8 hpq7 hgs7 hb7 hB7 t0 t8 hold hgqr hX7 HE hv
                go_wp2_with fail
                go_loopw [14] (fun i wr => ∃ (mm : Nat) (cs : Array Value), mm ≤ q ∧ i = .int .i64 mm ∧ Blk wr ga 2 cs ∧ q ≤ cs.size ∧ PQ wr gp gl cap gq (some ⟨g4, 0, none⟩) n c4 z v' st9 L' ∧ Blk wr gs 33 #[Value.int IntKind.i64 fn, Value.int IntKind.i64 tm, Value.slice A m c] ∧ Below w.heap.size w wr)
                  (fun i _ => q - (intOf i).toNat)
                case atStart => exact ⟨0, csa, Nat.zero_le _, rfl, hB9, hq7, hpq9, hgs9, hb9⟩
                case round =>
                  clear hB9 hq7 hpq9 hgs9 hb9
                  obtain ⟨mm, cs, hmm, rfl, hba, hcs, hpq, hgs, hb⟩ := hrel
                  by_cases hlq : mm < q
                  · have hck : wr.cell? ⟨ga, mm, none⟩ = some (cs[mm]'(by omega)) := (hba.cell mm).trans (Array.getElem?_eq_getElem (by omega))
                    have hfk := hba.fz mm
                    go_wp2_with fail
                    go_roundw
                    case rel => exact ⟨mm + 1, _, by omega, by go_num, hba.set mm _, by simpa using hcs, hpq.setCell ga mm _ hth.out, hgs.far hgane _, hb.setCell hgaw _⟩
                    case measure => simp [intOf]; omega
                  · clear hba hcs hth
                    go_wp2_with fail
                    go_roundw
                    case rel => exact ⟨j + 1, v', st9, L', by omega, by go_num, hpq, hL9, hv9, hgs, hb⟩
                    case measure => simp [intOf]; omega
              · obtain ⟨C, hC⟩ : ∃ C, callsV n st fn = C := ⟨_, rfl⟩
                have HC := hid hC
                clear hC
                have hL5 : L.length ≤ 100000 := by have := H60.out; omega
                by_cases hjT : j ≤ T
                · have hj3 : ¬ j < 3 := by omega
                  go_wp2_with fail
                  have t0 := hgs.cell 0
                  go_quiet (first
                    | (go_at_call 12; exact Calls.quiet_of_same (calls_an gp gl n cap st _ C _ (hpq.p.drewN _) HC.out))
                    | (go_at_call 13; exact Calls.quiet_of_same (rcalls_an (hpq.drewN _) _ C HC.out hL5)))
                  go_wp2_with fail
                  obtain ⟨w10, hw10⟩ : ∃ w10, wr.drewN nq = w10 := ⟨_, rfl⟩
                  rw [hw10]
                  have hpq10 : PQ w10 gp gl cap gq (some ⟨g4, 0, none⟩) n c4 z v st L := by rw [← hw10]; exact hpq.drewN _
                  have hgs10 : Blk w10 gs 33 #[Value.int IntKind.i64 fn, Value.int IntKind.i64 tm, Value.slice A m c] := by rw [← hw10]; exact hgs.drewN _
                  have hb10 : Below w.heap.size w w10 := by rw [← hw10]; exact ⟨hb.os, hb.tape, hb.output, hb.size, hb.block⟩
                  clear hpq hgs hb t0 hw10 HC
                  go_loopw [15] (fun i wr => ∃ kk : Int, -1 ≤ kk ∧ kk ≤ 10 ∧ i = .int .i64 kk ∧ PQ wr gp gl cap gq (some ⟨g4, 0, none⟩) n c4 z v st L ∧ Blk wr gs 33 #[Value.int IntKind.i64 fn, Value.int IntKind.i64 tm, Value.slice A m c] ∧ Below w.heap.size w wr)
                    (fun i _ => (10 - intOf i).toNat)
                  case atStart => exact ⟨-1, by omega, by omega, rfl, hpq10, hgs10, hb10⟩
                  case round =>
                    clear hpq10 hgs10 hb10
                    obtain ⟨kk, hk0, hk1, rfl, hpq, hgs, hb⟩ := hrel
                    by_cases hkk : kk < 10
                    · obtain ⟨V, hV⟩ : ∃ V, valV n st fn kk = V := ⟨_, rfl⟩
                      obtain ⟨T2, hT2⟩ : ∃ V, valT n st fn kk = V := ⟨_, rfl⟩
                      have HV := hid hV
                      have HT := hid hT2
                      clear hV hT2
                      have t0 := hgs.cell 0
                      go_wp2_with fail
                      refine (value_an gp gl n cap st _ _ V T2 _ hpq.p HV.out HT.out).mono ?_
                      rintro e w11 ⟨rfl, m11, rfl⟩
                      have t1 := (hgs.drewN m11).cell 0
                      have hpq11 := hpq.drewN m11
                      have hgs11 := hgs.drewN m11
                      have hb11 : Below w.heap.size w (wr.drewN m11) := ⟨hb.os, hb.tape, hb.output, hb.size, hb.block⟩
                      generalize wr.drewN m11 = w11 at t1 hpq11 hgs11 hb11 ⊢
                      clear hpq hgs hb t0
                      go_wp2_with fail
                      refine (rvalue_an hpq11 _ _ V T2 HV.out HT.out hL5).mono ?_
                      rintro e w12 ⟨rfl, hB12⟩
                      have hpq12 := hpq11.below hB12 (Nat.le_refl _)
                      have hgs12 := hgs11.below hB12 hgs11.lt
                      have hb12 := hb11.trans (hB12.mono hb11.size)
                      clear hpq11 hgs11 hb11 t1 hB12
                      go_wp2_with fail
                      go_roundw
                      case rel => exact ⟨kk + 1, by omega, by omega, by go_num, hpq12, hgs12, hb12⟩
                      case measure => simp [intOf]; omega
                    · go_wp2_with fail
                      go_roundw
                      case rel => exact ⟨k + 1, v, st, L, by omega, by go_num, hpq, by omega, hv, hb⟩
                      case measure => simp [intOf]; omega
                · go_wp2_with fail
                  have t0 := hgs.cell 0
                  go_quiet (first
                    | (go_at_call 12; exact Calls.quiet_of_same (calls_an gp gl n cap st _ C _ (hpq.p.drewN _) HC.out))
                    | (go_at_call 13; exact Calls.quiet_of_same (rcalls_an (hpq.drewN _) _ C HC.out hL5)))
                  go_wp2_with fail
                  obtain ⟨w10, hw10⟩ : ∃ w10, wr.drewN nq = w10 := ⟨_, rfl⟩
                  rw [hw10]
                  have hpq10 : PQ w10 gp gl cap gq (some ⟨g4, 0, none⟩) n c4 z v st L := by rw [← hw10]; exact hpq.drewN _
                  have hgs10 : Blk w10 gs 33 #[Value.int IntKind.i64 fn, Value.int IntKind.i64 tm, Value.slice A m c] := by rw [← hw10]; exact hgs.drewN _
                  have hb10 : Below w.heap.size w w10 := by rw [← hw10]; exact ⟨hb.os, hb.tape, hb.output, hb.size, hb.block⟩
                  clear hpq hgs hb t0 hw10 HC
                  go_loopw [15] (fun i wr => ∃ kk : Int, -1 ≤ kk ∧ kk ≤ 10 ∧ i = .int .i64 kk ∧ PQ wr gp gl cap gq (some ⟨g4, 0, none⟩) n c4 z v st L ∧ Blk wr gs 33 #[Value.int IntKind.i64 fn, Value.int IntKind.i64 tm, Value.slice A m c] ∧ Below w.heap.size w wr)
                    (fun i _ => (10 - intOf i).toNat)
                  case atStart => exact ⟨-1, by omega, by omega, rfl, hpq10, hgs10, hb10⟩
                  case round =>
                    clear hpq10 hgs10 hb10
                    obtain ⟨kk, hk0, hk1, rfl, hpq, hgs, hb⟩ := hrel
                    by_cases hkk : kk < 10
                    · obtain ⟨V, hV⟩ : ∃ V, valV n st fn kk = V := ⟨_, rfl⟩
                      obtain ⟨T2, hT2⟩ : ∃ V, valT n st fn kk = V := ⟨_, rfl⟩
                      have HV := hid hV
                      have HT := hid hT2
                      clear hV hT2
                      have t0 := hgs.cell 0
                      go_wp2_with fail
                      refine (value_an gp gl n cap st _ _ V T2 _ hpq.p HV.out HT.out).mono ?_
                      rintro e w11 ⟨rfl, m11, rfl⟩
                      have t1 := (hgs.drewN m11).cell 0
                      have hpq11 := hpq.drewN m11
                      have hgs11 := hgs.drewN m11
                      have hb11 : Below w.heap.size w (wr.drewN m11) := ⟨hb.os, hb.tape, hb.output, hb.size, hb.block⟩
                      generalize wr.drewN m11 = w11 at t1 hpq11 hgs11 hb11 ⊢
                      clear hpq hgs hb t0
                      go_wp2_with fail
                      refine (rvalue_an hpq11 _ _ V T2 HV.out HT.out hL5).mono ?_
                      rintro e w12 ⟨rfl, hB12⟩
                      have hpq12 := hpq11.below hB12 (Nat.le_refl _)
                      have hgs12 := hgs11.below hB12 hgs11.lt
                      have hb12 := hb11.trans (hB12.mono hb11.size)
                      clear hpq11 hgs11 hb11 t1 hB12
                      go_wp2_with fail
                      go_roundw
                      case rel => exact ⟨kk + 1, by omega, by omega, by go_num, hpq12, hgs12, hb12⟩
                      case measure => simp [intOf]; omega
                    · go_wp2_with fail
                      go_roundw
                      case rel => exact ⟨k + 1, v, st, L, by omega, by go_num, hpq, by omega, hv, hb⟩
                      case measure => simp [intOf]; omega
          · go_wp2_with fail
            go_ret
            exact ⟨rfl, hb⟩
        · go_wp2_with fail
          go_ret
          exact ⟨rfl, hb⟩

end Go.Proofs.Ytemdojckeghbjaa

namespace Go.Proofs.Ytemdojckeghbjaa.profilePlays
open Go.ChangeShapes Go.WideShapes Go.ChangeAt Go.RowKit
open Go.ChangeMaps (open_string shut_string)
set_option linter.unusedVariables false

theorem own : ownKnob Try.prog.godebug = none := by kernel_rfl
theorem laidOut : laidOutB Try.prog = true := by kernel_rfl

theorem walk (a0 : Option Addr) (len0 cap0 : Nat) (z0 : Nat → Int) (a1 : Option Addr) (len1 cap1 : Nat) (z1 : Nat → StepD) (w : World) (w0 : Row w a0 len0 (fun i => .int .i64 (z0 i)) ∧ len0 ≤ cap0 ∧ cap0 ≤ maxLen ∧ ∀ j, j < len0 → (Lit.int .i64 (z0 j)).wf = true) (w1 : Steps w a1 len1 z1) :
    Calls Try.prog 3 #[.slice a0 len0 cap0, .slice a1 len1 cap1] w fun e w' => e = .returned (.bool true) ∧ Below w.heap.size w w' := by
  exact plays_walk a0 len0 cap0 z0 a1 len1 cap1 z1 w w0.1 w0.2.1 (by have := w0.2.2.1; unfold maxLen at this; omega) w1

set_option maxRecDepth 100000 in
theorem lifted (os : Os) (started : os.Started) (H : Type) (enc : TypeId × Value → H) :
    ReturnsInHanded {} Try.checked os 3 .any (Rows.profilePlaysSpec.pre6 enc Try.prog Try.f3 Rows.profilePlaysRow.domain false) (Rows.profilePlaysSpec.post enc Try.prog Try.f3 false true false false) := by
  refine returnsInHanded_of_change (C := Try.checked) own started (by kernel_rfl) Try.func3
    (ChangeSpec.witness6 (enc := enc) (C := Try.checked) false ⟨#[], #[.slice none 0 0, .slice none 0 0], []⟩ 8 (by kernel_rfl) (by kernel_rfl) (by kernel_rfl) (by kernel_rfl)) ?_
  intro W base args ds gs before hval0 hW hcnd _
  have hval : ∀ (j : Nat) t v, Try.f3.params[j]? = some t → args[j]? = some v → Value.okWide Try.prog W .any base t v := hval0
  have hW' := hW
  obtain ⟨p, q, hA0, hV, rfl, hfz, hnd⟩ := hW
  have hA : DataW.TrodAll enc Try.prog W 0 (fun _ => true) true Try.f3.params.toList args.toList ds p := hA0
  rw [Try.params3] at hA hval
  obtain ⟨v0, vs0, d0, ds0, p0, q0, hargs, rfl, rfl, h0, r0⟩ := trodAll_cons hA
  obtain ⟨v1, vs1, d1, ds1, p1, q1, rfl, rfl, rfl, h1, r1⟩ := trodAll_cons r0
  obtain ⟨rfl, rfl, rfl⟩ := trodAll_nil r1
  obtain rfl : args = #[v0, v1] := by cases args; simp_all
  obtain ⟨rfl, rfl⟩ := trodVars_none hV
  obtain ⟨a0, len0, cap0, rfl⟩ := okWide_slice Try.underlying22 (hval 0 22 v0 rfl rfl)
  have k0 := h0
  have lt0 : ∀ x ∈ p0, x.block < W.heap.size := by obtain ⟨m, hm⟩ := k0; exact DataW.trod_lt m _ _ _ hm
  obtain ⟨z0, w0⟩ : ∃ z0 : Nat → Int, Row W a0 len0 (fun i => .int .i64 (z0 i)) ∧ len0 ≤ cap0 ∧ cap0 ≤ maxLen ∧ ∀ j, j < len0 → (Lit.int .i64 (z0 j)).wf = true := by
    obtain ⟨fuel, hf⟩ := h0
    rcases open_ints Try.underlying22 Try.underlying3 (by kernel_rfl) hf with ⟨hcs, _⟩ | ⟨x, l, c, zs, hcs, _, hl, hm, hz, _, hcell, hwz⟩
    · simp [Value.cells] at hcs
      obtain ⟨rfl, rfl, rfl⟩ := hcs
      exact ⟨fun _ => 0, Row.nil, Nat.le_refl _, Nat.zero_le _, fun j hj => absurd hj (Nat.not_lt_zero j)⟩
    · simp [Value.cells] at hcs
      obtain ⟨rfl, rfl, rfl⟩ := hcs
      exact ⟨fun j => zs.getD j 0, Row.of_add hl (fun j hj => hcell j (by simp at hz; omega)), hl, hm, fun j hj => getD_all hwz (by simp at hz; omega)⟩
  obtain ⟨a1, len1, cap1, rfl⟩ := okWide_slice Try.underlying23 (hval 1 23 v1 rfl rfl)
  have k1 := h1
  have lt1 : ∀ x ∈ p1, x.block < W.heap.size := by obtain ⟨m, hm⟩ := k1; exact DataW.trod_lt m _ _ _ hm
  obtain ⟨z1, w1⟩ : ∃ z1 : Nat → StepD, Steps W a1 len1 z1 := by
    obtain ⟨fuel, hf⟩ := h1
    rcases open_steps hf with ⟨hcs, _⟩ | ⟨x, l, c, zs, hcs, hl, hst⟩
    · simp [Value.cells] at hcs
      obtain ⟨rfl, rfl, rfl⟩ := hcs
      exact ⟨fun _ => default, fun i hi => absurd hi (Nat.not_lt_zero i)⟩
    · simp [Value.cells] at hcs
      obtain ⟨rfl, rfl, rfl⟩ := hcs
      exact ⟨zs, hst⟩
  clear hA0 hval0
  refine (walk a0 len0 cap0 z0 a1 len1 cap1 z1 W w0 w1).mono fun e W' ⟨he, bel⟩ => ?_
  subst he
  exact ⟨_, rfl, _, _, _, [], _, [], hW', trodAll_mk1 (shut_bool Try.underlying4 _), (trodAll_cons_mk (Below.trod laidOut (by kernel_rfl) (of_decide_eq_true (by kernel_rfl)) k0 bel lt0) (trodAll_cons_mk (Below.trod laidOut (by kernel_rfl) (of_decide_eq_true (by kernel_rfl)) k1 bel lt1) trodAll_mk0)), rfl, bel.frame _, fun h => by cases h⟩

theorem over : Rows.profilePlaysRow.holds Try.pinned (OpenSpec.ofChange Rows.profilePlaysSpec) :=
  OpenClaim.holds_of_wide 3 Try.f3 rfl rfl rfl rfl rfl rfl rfl ⟨rfl, rfl, rfl, rfl, rfl⟩ rfl rfl rfl rfl rfl (by kernel_rfl) Try.func3 (by kernel_rfl)
    (of_decide_eq_true (by kernel_rfl)) (by unfold Func.isWrapper; first | (rw [if_pos (by decide +kernel)]; kernel_rfl) | (rw [if_neg (by decide +kernel)]; exact ⟨rfl, rfl⟩))
    (fun os started H enc _ => lifted os started H enc)

theorem proved : Rows.ProfilePlaysSaid := over
#print axioms proved
end Go.Proofs.Ytemdojckeghbjaa.profilePlays

