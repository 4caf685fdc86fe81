/- LexAgain: tokens with a space between each two are the same tokens, and bytes behind a line's end have their own, proved for any bytes. Conditions: none. -/
import Derived.Test.YtomnomljljkdfaaSpaced
import Derived.Deep.RegionHeld3
import Derived.Test.YtomnomljljkdfaaRows
import Derived.ProofKit
import Derived.OpenShut
import Derived.ShutString
import Derived.ChangeOld
import Derived.Deep.Grids
namespace Go.Proofs.Ytomnomljljkdfaa
open Go.RowKit
set_option linter.unusedVariables false
attribute [local go_sem] maxI minI

set_option maxRecDepth 100000 in
set_option maxHeartbeats 8000000 in
theorem again_walk (a0 : Option Addr) (len0 cap0 : Nat) (z : Nat → Int) (a1 : Option Addr) (len1 cap1 : Nat) (x : Nat → Int) (w : World) (hz : Row w a0 len0 (fun i => .int .u8 (z i))) (hcap : len0 ≤ cap0) (hm0 : cap0 ≤ 9223372036854775807) (hbz : ∀ j, j < len0 → 0 ≤ z j ∧ z j ≤ 255)
    (hx : Row w a1 len1 (fun i => .int .u8 (x i))) (hcap1 : len1 ≤ cap1) (hm1 : cap1 ≤ 9223372036854775807) (hbx : ∀ j, j < len1 → 0 ≤ x j ∧ x j ≤ 255) :
    Calls Try.prog 4 #[.slice a0 len0 cap0, .slice a1 len1 cap1] w fun e w' => e = .returned (.bool true) ∧ Below w.heap.size w w' := by
  have HZ := hid hz
  have HB := hid hbz
  have HX := hid hx
  have HBX := hid hbx
  clear hz hbz hx hbx
  obtain ⟨n, hn⟩ : ∃ n : Nat, min (len0 : Int) 2000 = n := ⟨min len0 2000, by omega⟩
  have hn2 : n ≤ 2000 := by omega
  have hnl : n ≤ len0 := by omega
  obtain ⟨m, hm⟩ : ∃ m : Nat, min (len1 : Int) 500 = m := ⟨min len1 500, by omega⟩
  have hm2 : m ≤ 500 := by omega
  have hml : m ≤ len1 := by omega
  have HN := hid hn
  have HM := hid hm
  have hu32 := Try.underlying32
  obtain ⟨i5, hi5, hz50, hz51, hz52⟩ := info_parts info5
  go_enter Try.func4, Try.ntmps4
  go_wp2_with fail
  refine (shown_any _).mono ?_
  rintro e w1 ⟨rfl, hB⟩
  go_wp2_with fail
  clear hn hm
  refine (lex_toks a0 n cap0 z w1 ((HZ.out.le hnl).kept hB) (fun j hj => HB.out j (by omega)) (by omega)).mono ?_
  rintro e w2 ⟨⟨l, g, c, hl, rfl, hg, hc, hT⟩ | ⟨l, p, hl, rfl⟩, hB2⟩
  · have hll := hl.len
    have hb2 : Below w.heap.size w w2 := hB.trans (hB2.mono hB.size)
    have HL := hid hl
    have hrow2 : Row w2 a0 n (fun j => .int .u8 (z j)) := (HZ.out.le hnl).kept hb2
    have hrowx2 : Row w2 a1 m (fun j => .int .u8 (x j)) := (HX.out.le hml).kept hb2
    have HR2 := hid hrow2
    have HRX2 := hid hrowx2
    have htot : Hid (tot 0 (l ++ [⟨4, n, 0⟩]) ≤ 4001) := by
      have h1 := hl.tot_le 0
      have h2 : tot 0 (l ++ [⟨4, n, 0⟩]) = tot 0 l + 1 := tot_snoc l 0 _
      unfold Hid
      omega
    clear hl hB hB2 hrow2 hrowx2
    have hbs := hb2.size
    go_wp2_with fail
    have hown0 := own_empty w2 5 1
    have hb0 : Below w2.heap.size w2 (w2.alloc (Obj.cells #[] 5)) := (Below.refl _ _).alloc (Nat.le_refl _) _
    go_loopw [9, 10] (fun v i wr => ∃ (k N : Nat) (Y : Nat → Int), k ≤ l.length + 1 ∧ i = .int .i64 k ∧ wr.ownsRow w2.heap.size 5 1 v N (bytesV Y N) ∧ Hid (Txt z (l ++ [⟨4, n, 0⟩]) k N Y) ∧ Below w2.heap.size w2 wr)
      (fun _ i _ => l.length + 1 - (intOf i).toNat)
    case atStart => exact ⟨0, 0, fun _ => 0, by omega, rfl, hown0, hid ⟨rfl, trivial, fun j hj => absurd hj (Nat.not_lt_zero j)⟩, hb0⟩
    case round =>
      obtain ⟨k, N, Y, hk, rfl, hown, htx, hb⟩ := hrel
      clear hown0 hb0
      by_cases hlt : k < l.length + 1
      · obtain ⟨t, ht⟩ : ∃ t, (l ++ [⟨4, n, 0⟩])[k]? = some t := ⟨_, List.getElem?_eq_getElem (by simp; omega)⟩
        have hfit : t.at_ + t.size ≤ n := by
          rcases Nat.lt_or_ge k l.length with h | h
          · rw [List.getElem?_append_left h] at ht
            exact (HL.out.ends t (List.mem_of_getElem? ht)).2.2
          · rw [List.getElem?_append_right h] at ht
            have e : (⟨4, n, 0⟩ : Tok) = t := by
              rw [show k - l.length = 0 from by omega] at ht
              simpa using ht
            subst e
            exact Nat.le_refl _
        have htx2 := htx.out.snoc ht (fun j hj => HB.out _ (by omega))
        have hN : N + t.size + 1 ≤ 4001 := by
          rw [htx2.len]
          exact Nat.le_trans (tot_take _ _ _) htot.out
        have hTr := hT.below hb hT.lt
        obtain ⟨_, y1, _⟩ := hTr.at_ ht
        have hsz := sub_size z t.at_ t.size
        have hsc := strCells_sub z t.at_ t.size (fun j hj => HB.out _ (by omega))
        generalize hS : sub z t.at_ t.size = S at *
        have HTX := hid htx2
        have HSZ := hid hsz
        have HSC := hid hsc
        have h64 : N + S.size ≤ maxLen := by rw [hsz]; unfold maxLen; omega
        have h65 : N + S.size ≤ 140737488355328 := by rw [hsz]; omega
        have h66 : N + S.size + 1 ≤ maxLen := by rw [hsz]; unfold maxLen; omega
        have h67 : (N + S.size + 1) * 1 ≤ 140737488355328 := by rw [hsz]; omega
        clear htx2 hsz hsc hS hTr ht
        generalize t.at_ = P at *
        generalize t.size = K at *
        go_wp2_with (at_builtin
                     first
                     | (refine Lib.wpList_append_own_string wr rfl (.tmp 54) (.tmp 59) 22 9 rfl w2.heap.size 5 i5 Try.underlying22 Try.underlying9 hi5 hz50 hz51 hz52 u9 N (bytesV Y N) rfl hown S rfl h64 h65 hb.size ?_
                        intro v4 w4 hown4 hg4 hnil4
                        have hb4 := hb.grown hg4 hb.size (fun g hg => (hown.lt g hg).1)
                        have hown5 := hown4.alloc (Obj.cells #[Value.int IntKind.u8 32] 5)
                        have hb5 := hb4.alloc hb4.size (Obj.cells #[Value.int IntKind.u8 32] 5)
                        have hsr : Hid _ := hid (bytesV_cells (Row.of_blk (m := 1) (f := fun j => .int .u8 ((fun _ => 32) j)) (Blk.new w4 5 #[Value.int IntKind.u8 32]) (fun i hi => by obtain rfl : i = 0 := (by omega); rfl)))
                        clear hnil4 hg4)
                     | (refine wpList_onto rfl (.tmp 60) (.tmp 61) 22 rfl w2.heap.size 5 i5 (.int .u8 0) 1 1 Try.underlying22 hi5 hz50 hz51 hz52 rfl (by omega) v4 (N + S.size) (bytesV Y N ++ Lib.strCells S) rfl hown5 (some ⟨w4.heap.size, 0, none⟩) 1 1 (bytesV (fun _ => 32) 1) rfl rfl hsr.out (fun e => by cases e) (bytesV_one _ _) h66 h67 hb5.size ?_
                        intro v6 w6 hown6 hg6 hform6 hat6
                        have hb6 := hb5.grown hg6 hb5.size (fun g hg => (hown5.lt g hg).1)
                        have hown7 := hid hown6
                        clear hform6 hat6 hg6 hown6))
        go_roundw
        case rel => exact ⟨k + 1, N + K + 1, _, by omega, by go_num, (by
          have h := hown7.out
          rw [HSZ.out, HSC.out, bytesV_cat] at h
          rw [← bytesV_snoc]
          exact h), HTX, hb6⟩
        case measure => simp [intOf]; omega
      · obtain rfl : k = l.length + 1 := by omega
        have htake : (l ++ [⟨4, n, 0⟩] : List Tok).take (l.length + 1) = l ++ [⟨4, n, 0⟩] := List.take_of_length_le (by simp)
        have hlenN := htx.out.len
        have hlay := htx.out.lay
        rw [htake] at hlenN hlay
        have hN0 : 0 < N := by
          have := tot_ge (l ++ [⟨4, n, 0⟩]) 0
          rw [← hlenN] at this
          simp at this
          omega
        have hN4 : N ≤ 4001 := by rw [hlenN]; exact htot.out
        have hsp := hlay.all HL.out.toks
        rw [← hlenN] at hsp
        have HSP := hid hsp
        have HLAY := hid hlay
        clear hsp hlay hlenN htake
        obtain ⟨g3, c3, rfl, hc3, hg3, hgl3, hrow3⟩ := own_bytes hown hN0
        have HR3 := hid hrow3
        clear hrow3 hown
        go_wp2_with fail
        refine (lex_toks (some ⟨g3, 0, none⟩) N c3 Y wr HR3.out (fun j hj => htx.out.u8 j hj) (by omega)).mono ?_
        rintro e w5 ⟨⟨lx, gx, cx, hlx, rfl, hgx, hcx, hTx⟩ | ⟨lx, p, hlx, rfl⟩, hB5⟩
        · obtain rfl : lx = place 0 l := (hlx.unique HSP.out).1
          rw [place_len] at hcx ⊢
          have hb5 : Below w2.heap.size w2 w5 := hb.trans (hB5.mono hb.size)
          have hT5 := hT.below hb5 hT.lt
          have HTT : ∀ j, j < l.length + 1 → ∃ K S P Q, ∀ mm, ((w5.drewN mm).cell? ⟨g, j * 3, none⟩ = some (.int .i64 K) ∧ (w5.drewN mm).cell? ⟨g, j * 3 + 1, none⟩ = some (.string S) ∧ (w5.drewN mm).cell? ⟨g, j * 3 + 2, none⟩ = some (.int .i64 P)) ∧ ((w5.drewN mm).cell? ⟨gx, j * 3, none⟩ = some (.int .i64 K) ∧ (w5.drewN mm).cell? ⟨gx, j * 3 + 1, none⟩ = some (.string S) ∧ (w5.drewN mm).cell? ⟨gx, j * 3 + 2, none⟩ = some (.int .i64 Q)) := by
            intro j hj
            rcases Nat.lt_or_ge j l.length with h | h
            · have hu : l[j]? = some l[j] := List.getElem?_eq_getElem h
              have hu1 : (l ++ [⟨4, n, 0⟩])[j]? = some l[j] := by rw [List.getElem?_append_left h]; exact hu
              obtain ⟨q, hq, he⟩ := HLAY.out.get hu1
              have hq2 : (place 0 l)[j]? = some ⟨l[j].kind, q, l[j].size⟩ := by
                have e : ∀ (L : List Tok) (p : Nat) (t : Tok), place p (L ++ [t]) = place p L ++ [⟨t.kind, tot p L, t.size⟩] := by
                  intro L
                  induction L with
                  | nil => intro p t; rfl
                  | cons u L ih => intro p t; show _ :: place _ (L ++ [t]) = _; rw [ih]; rfl
                rw [e, List.getElem?_append_left (by rw [place_len]; exact h)] at hq
                exact hq
              refine ⟨_, _, _, ((q : Nat) : Int), fun mm => ⟨(hT5.drewN mm).at_ hu1, ?_⟩⟩
              have := (hTx.drewN mm).at_ (i := j) (t := ⟨l[j].kind, q, l[j].size⟩) (by rw [List.getElem?_append_left (by rw [place_len]; exact h)]; exact hq2)
              dsimp only at this
              rw [he] at this
              exact this
            · obtain rfl : j = l.length := by omega
              refine ⟨_, _, _, ((N : Nat) : Int), fun mm => ⟨(hT5.drewN mm).at_ (i := l.length) (t := ⟨4, n, 0⟩) (by simp), ?_⟩⟩
              exact (hTx.drewN mm).at_ (i := l.length) (t := ⟨4, N, 0⟩) (by rw [List.getElem?_append_right (by rw [place_len]; exact Nat.le_refl _), place_len]; simp)
          have HT := hid HTT
          clear HTT hlx hTx hB5 hT5
          go_wp2_with fail
          go_loopw [14] (fun v wr => ∃ (j mm : Nat), j ≤ l.length + 1 ∧ v = .int .i64 j ∧ wr = w5.drewN mm)
            (fun v _ => l.length + 1 - (intOf v).toNat)
          case atStart => exact ⟨0, 0, by omega, rfl, rfl⟩
          case round =>
            obtain ⟨j, mm, hj, rfl, rfl⟩ := hrel
            by_cases hji : j < l.length + 1
            · obtain ⟨K, S, P, Q, hcells⟩ := HT.out j hji
              obtain ⟨⟨y0, y1, y2⟩, y3, y4, y5⟩ := hcells mm
              clear hcells
              obtain ⟨w12, hw12⟩ : ∃ w12, w5.drewN mm = w12 := ⟨_, rfl⟩
              rw [hw12] at y0 y1 y2 y3 y4 y5 ⊢
              have HW := hid hw12
              clear hw12
              have hj2 : (j : Int) < (l.length : Int) + 1 := by omega
              go_wp2_with fail
              go_quiet (fail)
              go_wp2_with fail
              go_roundw
              case rel => exact ⟨j + 1, mm + nq, by omega, by go_num, by rw [← HW.out, World.drewN_drewN]⟩
              case measure => simp [intOf]; omega
            · obtain ⟨w6, hw6⟩ : ∃ w6, w5.drewN mm = w6 := ⟨_, rfl⟩
              rw [hw6]
              have hb6 : Below w2.heap.size w2 w6 := by rw [← hw6]; exact ⟨hb5.os, hb5.tape, hb5.output, hb5.size, hb5.block⟩
              clear hw6 HT hb5
              have hRx6 : Row w6 a1 m (fun j => .int .u8 (x j)) := HRX2.out.kept hb6
              have hRb6 : Row w6 a0 n (fun j => .int .u8 (z j)) := HR2.out.kept hb6
              have hsrc := hid (bytesV_cells (hRb6.kept ((Below.refl _ _).alloc (Nat.le_refl _) (Obj.cells #[] 5))))
              have hnil := hid (fun e => hRb6.nil_len e)
              have hnilx := hid (fun e => hRx6.nil_len e)
              have HRX6 := hid hRx6
              have hc0 : Below w6.heap.size w6 (w6.alloc (Obj.cells #[] 5)) := (Below.refl _ _).alloc (Nat.le_refl _) _
              have h63 : 0 + n ≤ maxLen := by unfold maxLen; omega
              have h64 : 0 + n + 1 ≤ maxLen := by unfold maxLen; omega
              have h65 : 0 + n + 1 + m ≤ maxLen := by unfold maxLen; omega
              clear hRx6 hRb6
              go_wp2_with (at_builtin
                           first
                           | (refine wpList_onto rfl (.tmp 109) (.tmp 110) 22 rfl w6.heap.size 5 i5 (.int .u8 0) 1 1 Try.underlying22 hi5 hz50 hz51 hz52 rfl (by omega) (.slice (some ⟨w6.heap.size, 0, none⟩) 0 0) 0 [] rfl (own_empty w6 5 1) a0 n cap0 (bytesV z n) rfl (by simp [bytesV_len]) hsrc.out hnil.out (bytesV_one z n) h63 (by omega) hc0.size ?_
                              intro v7 w7 hown7 hg7 hform7 hat7
                              have hc1 := hc0.grown hg7 hc0.size (fun k hk => by simp [Value.ownBlock] at hk; omega)
                              have hc2 := hc1.alloc hc1.size (Obj.cells #[Value.int IntKind.u8 10] 5)
                              have hown7a := hown7.alloc (Obj.cells #[Value.int IntKind.u8 10] 5)
                              have hsr7 : Hid _ := hid (bytesV_cells (Row.of_blk (m := 1) (f := fun j => .int .u8 ((fun _ => 10) j)) (Blk.new w7 5 #[Value.int IntKind.u8 10]) (fun i hi => by obtain rfl : i = 0 := (by omega); rfl)))
                              clear hform7 hat7 hg7 hown7)
                           | (refine wpList_onto rfl (.tmp 111) (.tmp 112) 22 rfl w6.heap.size 5 i5 (.int .u8 0) 1 1 Try.underlying22 hi5 hz50 hz51 hz52 rfl (by omega) v7 (0 + n) ([] ++ bytesV z n) rfl hown7a (some ⟨w7.heap.size, 0, none⟩) 1 1 (bytesV (fun _ => 10) 1) rfl rfl hsr7.out (fun e => by cases e) (bytesV_one _ _) h64 (by omega) hc2.size ?_
                              intro v8 w8 hown8 hg8 hform8 hat8
                              have hc3 := hc2.grown hg8 hc2.size (fun k hk => (hown7a.lt k hk).1)
                              have hsrx := hid (bytesV_cells (HRX6.out.kept hc3))
                              clear hform8 hat8 hg8 hown7a hc2 hc1)
                           | (refine wpList_onto rfl (.tmp 113) (.tmp 114) 22 rfl w6.heap.size 5 i5 (.int .u8 0) 1 1 Try.underlying22 hi5 hz50 hz51 hz52 rfl (by omega) v8 (0 + n + 1) ([] ++ bytesV z n ++ bytesV (fun _ => 10) 1) rfl hown8 a1 m cap1 (bytesV x m) rfl (by simp [bytesV_len]) hsrx.out hnilx.out (bytesV_one x m) h65 (by omega) hc3.size ?_
                              intro v9 w9 hown9 hg9 hform9 hat9
                              have hc4 := hc3.grown hg9 hc3.size (fun k hk => (hown8.lt k hk).1)
                              clear hform9 hat9 hg9 hown8 hc3))
              have hown10 : w9.ownsRow w6.heap.size 5 1 v9 (n + 1 + m) (bytesV (lined n z x) (n + 1 + m)) := by
                have e1 : bytesV z n ++ bytesV (fun _ => 10) 1 = bytesV (Go.Proofs.Ytomnomljljkdfaa.more z n 10) (n + 1) := bytesV_snoc z n 10
                rw [List.nil_append, e1, bytesV_cat, Nat.zero_add] at hown9
                exact hown9
              obtain ⟨g9, c9, rfl, hc9, hg9b, hgl9, hrow9⟩ := own_bytes hown10 (by omega)
              have HR9 := hid hrow9
              have HRX9 := hid (HRX6.out.kept hc4)
              have hb9 : Below w2.heap.size w2 w9 := hb6.trans (hc4.mono hb6.size)
              clear hown9 hown10 hrow9 hsrc hnil hnilx hsr7 hsrx h63 h64 h65 hc0 hc4 hb6 hb
              have HE : Hid (∀ l2 r2, Lexes m x 0 l2 r2 → Lexes (n + 1 + m) (lined n z x) 0 (l ++ l2.map (Tok.shift (n + 1))) (r2.map (n + 1 + ·))) := hid fun l2 r2 h2 => HL.out.lines h2 (fun j hj => lined_old hj) lined_end (fun j hj => lined_new)
              have HLU := hid (lined_u8 (n := n) (m := m) (z := z) (x := x) (fun j hj => HB.out j (by omega)) (fun j hj => HBX.out j (by omega)))
              have HLO := hid (fun a k (h : a + k ≤ n) => sub_congr (y := lined n z x) (z := z) (a := a) (k := k) fun j h1 h2 => lined_old (by omega))
              have HLS := hid (fun a k => sub_shift (n := n) (m := m) (z := z) (x := x) (a := a) (k := k))
              generalize lined n z x = y at *
              refine (lex_toks (some ⟨g9, 0, none⟩) (n + 1 + m) c9 y w9 HR9.out (fun j hj => HLU.out j hj) (by omega)).mono ?_
              rintro e w10 ⟨⟨ly, gy, cy, hly, rfl, hgy, hcy, hTy⟩ | ⟨ly, py, hly, rfl⟩, hB10⟩
              · have HLY := hid hly
                clear hly
                go_wp2_with fail
                refine (lex_toks a1 m cap1 x w10 (HRX9.out.kept hB10) (fun j hj => HBX.out j (by omega)) (by omega)).mono ?_
                rintro e w11 ⟨⟨lz, gz, cz, hlz, rfl, hgz, hcz, hTz⟩ | ⟨lz, pz, hlz, rfl⟩, hB11⟩
                · obtain rfl : ly = l ++ lz.map (Tok.shift (n + 1)) := (HLY.out.unique (HE.out _ _ hlz)).1
                  have hlenY : (l ++ lz.map (Tok.shift (n + 1))).length = l.length + lz.length := by simp
                  rw [hlenY] at hcy ⊢
                  have hTy11 := hTy.below hB11 hTy.lt
                  have hb10 : Below w2.heap.size w2 w10 := hb9.trans (hB10.mono hb9.size)
                  have hb11 : Below w2.heap.size w2 w11 := hb10.trans (hB11.mono hb10.size)
                  have hT11 := hT.below hb11 hT.lt
                  have hbw : Below w.heap.size w w11 := hb2.trans (hb11.mono hbs)
                  have hlz2 := hlz.len
                  have hTb := hid hlz.at_le
                  clear hlz hTy hB10 hB11 hb9 hb10 hb11 hlenY HLY
                  go_wp2_with fail
                  go_loopw [21] (fun v wr => ∃ (j mm : Nat), j ≤ l.length + lz.length + 1 ∧ v = .int .i64 j ∧ wr = w11.drewN mm)
                    (fun v _ => l.length + lz.length + 1 - (intOf v).toNat)
                  case atStart => exact ⟨0, 0, by omega, rfl, rfl⟩
                  case round =>
                    obtain ⟨j, mm, hj, rfl, rfl⟩ := hrel
                    by_cases hji : j < l.length + lz.length + 1
                    · by_cases hjl : j < l.length
                      · have hu : l[j]? = some l[j] := List.getElem?_eq_getElem hjl
                        obtain ⟨y0, y1, y2⟩ := (hT11.drewN mm).at_ (i := j) (t := l[j]) (by rw [List.getElem?_append_left hjl]; exact hu)
                        obtain ⟨y3, y4, y5⟩ := (hTy11.drewN mm).at_ (i := j) (t := l[j]) (by rw [List.getElem?_append_left (by simp; omega), List.getElem?_append_left hjl]; exact hu)
                        rw [HLO.out _ _ (HL.out.ends l[j] (List.getElem_mem hjl)).2.2] at y4
                        clear hu
                        generalize l[j].kind = K at *
                        generalize sub z l[j].at_ l[j].size = S at *
                        generalize l[j].at_ = P at *
                        obtain ⟨w12, hw12⟩ : ∃ w12, w11.drewN mm = w12 := ⟨_, rfl⟩
                        rw [hw12] at y0 y1 y2 y3 y4 y5 ⊢
                        have HW := hid hw12
                        clear hw12
                        have hj2 : (j : Int) < (l.length : Int) + (lz.length : Int) + 1 := by omega
                        have hj3 : (j : Int) < (l.length : Int) + 1 := by omega
                        have d1 : decide ((j : Int) < (l.length : Int)) = true := by simp; omega
                        have d2 : decide (j < l.length) = true := by simp; omega
                        have d3 : decide ((l.length : Int) ≤ (j : Int)) = false := by simp; omega
                        have d4 : decide (l.length ≤ j) = false := by simp; omega
                        go_wp2_with fail
                        go_quiet (fail)
                        clear y0 y1 y2 y3 y4 y5
                        go_wp2_with fail
                        go_quiet (fail)
                        go_wp2_with fail
                        go_roundw
                        case rel => exact ⟨j + 1, _, by omega, by go_num, by rw [← HW.out, World.drewN_drewN]⟩
                        case measure => simp [intOf]; omega
                      · obtain ⟨i, hij⟩ : ∃ i, j = l.length + i := ⟨j - l.length, by omega⟩
                        obtain ⟨t, ht⟩ : ∃ t, (lz ++ [⟨4, m, 0⟩])[i]? = some t := ⟨_, List.getElem?_eq_getElem (by simp; omega)⟩
                        obtain ⟨y0, y1, y2⟩ := (hTz.drewN mm).at_ ht
                        have hty : (l ++ lz.map (Tok.shift (n + 1)) ++ ([⟨4, n + 1 + m, 0⟩] : List Tok))[j]? = some (t.shift (n + 1)) := by
                          have e : lz.map (Tok.shift (n + 1)) ++ ([⟨4, n + 1 + m, 0⟩] : List Tok) = (lz ++ ([⟨4, m, 0⟩] : List Tok)).map (Tok.shift (n + 1)) := by
                            rw [List.map_append]; rfl
                          rw [List.append_assoc, List.getElem?_append_right (by omega), show j - l.length = i from by omega, e, List.getElem?_map, ht]
                          rfl
                        obtain ⟨y3, y4, y5⟩ := (hTy11.drewN mm).at_ hty
                        have y3 : (w11.drewN mm).cell? ⟨gy, j * 3, none⟩ = some (.int .i64 t.kind) := y3
                        have y4 : (w11.drewN mm).cell? ⟨gy, j * 3 + 1, none⟩ = some (.string (sub y (n + 1 + t.at_) t.size)) := y4
                        have y5 : (w11.drewN mm).cell? ⟨gy, j * 3 + 2, none⟩ = some (.int .i64 ((t.at_ : Int) + (n : Int) + 1)) := by
                          have y5 : (w11.drewN mm).cell? ⟨gy, j * 3 + 2, none⟩ = some (.int .i64 ((n + 1 + t.at_ : Nat) : Int)) := y5
                          rw [show ((n + 1 + t.at_ : Nat) : Int) = (t.at_ : Int) + (n : Int) + 1 from by omega] at y5
                          exact y5
                        rw [HLS.out] at y4
                        have htm : t.at_ ≤ m := hTb.out i t ht
                        clear ht hty
                        generalize t.kind = K at *
                        generalize sub x t.at_ t.size = S at *
                        generalize t.at_ = P at *
                        obtain ⟨w12, hw12⟩ : ∃ w12, w11.drewN mm = w12 := ⟨_, rfl⟩
                        rw [hw12] at y0 y1 y2 y3 y4 y5 ⊢
                        have HW := hid hw12
                        clear hw12
                        have hi2 : (i : Int) < (lz.length : Int) + 1 := by omega
                        have hj2 : (j : Int) < (l.length : Int) + (lz.length : Int) + 1 := by omega
                        have d1 : decide ((j : Int) < (l.length : Int)) = false := decide_eq_false (by omega)
                        have d2 : decide (j < l.length) = false := decide_eq_false (by omega)
                        have d3 : decide ((l.length : Int) ≤ (j : Int)) = true := decide_eq_true (by omega)
                        have d4 : decide (l.length ≤ j) = true := decide_eq_true (by omega)
                        have e1 : (j : Int) - ((l.length : Int) + 1) = (i : Int) - 1 := by omega
                        have e2 : (j : Int) - ((l.length : Int) + 1) + 1 = (i : Int) := by omega
                        have HIJ := hid hij
                        clear hij hjl
                        go_wp2_with fail
                        go_quiet (fail)
                        go_wp2_with fail
                        go_quiet (fail)
                        go_wp2_with fail
                        go_roundw
                        case rel => exact ⟨j + 1, _, by omega, by go_num, by rw [← HW.out, World.drewN_drewN]⟩
                        case measure => simp [intOf]; omega
                    · have hj2 : ¬ ((j : Int) < (l.length : Int) + (lz.length : Int) + 1) := by omega
                      go_wp2_with fail
                      go_ret
                      exact ⟨rfl, ⟨hbw.os, hbw.tape, hbw.output, hbw.size, hbw.block⟩⟩
                · exact absurd (HLY.out.unique (HE.out _ _ hlz)).2 (by simp)
              · have HLY := hid hly
                clear hly
                go_wp2_with fail
                refine (lex_toks a1 m cap1 x w10 (HRX9.out.kept hB10) (fun j hj => HBX.out j (by omega)) (by omega)).mono ?_
                rintro e w11 ⟨⟨lz, gz, cz, hlz, rfl, hgz, hcz, hTz⟩ | ⟨lz, pz, hlz, rfl⟩, hB11⟩
                · exact absurd (HLY.out.unique (HE.out _ _ hlz)).2 (by simp)
                · have hpy : (py : Int) = (n : Int) + 1 + (pz : Int) := by
                    have := (HLY.out.unique (HE.out _ _ hlz)).2
                    simp at this
                    omega
                  rw [hpy]
                  have hpz := hlz.wrong_le pz rfl
                  have hb10 : Below w2.heap.size w2 w10 := hb9.trans (hB10.mono hb9.size)
                  have hb11 : Below w2.heap.size w2 w11 := hb10.trans (hB11.mono hb10.size)
                  have hbw : Below w.heap.size w w11 := hb2.trans (hb11.mono hbs)
                  clear hlz hB10 hB11 hb9 hb10 hb11 HLY hpy
                  go_wp2_with fail
                  go_ret
                  exact ⟨rfl, hbw⟩
        · exact absurd (hlx.unique HSP.out).2 (by simp)
  · go_wp2_with fail
    go_ret
    exact ⟨rfl, hB.trans (hB2.mono hB.size)⟩
end Go.Proofs.Ytomnomljljkdfaa

namespace Go.Proofs.Ytomnomljljkdfaa.lexAgain
open Go.ChangeShapes Go.WideShapes Go.ChangeAt Go.RowKit
open Go.ChangeMaps (open_string shut_string)
set_option linter.unusedVariables false

theorem own : ownKnob Try.prog.godebug = none := by kernel_rfl
theorem laidOut : laidOutB Try.prog = true := by kernel_rfl

theorem walk (a0 : Option Addr) (len0 cap0 : Nat) (z0 : Nat → Int) (a1 : Option Addr) (len1 cap1 : Nat) (z1 : Nat → Int) (w : World) (w0 : Row w a0 len0 (fun i => .int .u8 (z0 i)) ∧ len0 ≤ cap0 ∧ cap0 ≤ maxLen ∧ ∀ j, j < len0 → (Lit.int .u8 (z0 j)).wf = true) (w1 : Row w a1 len1 (fun i => .int .u8 (z1 i)) ∧ len1 ≤ cap1 ∧ cap1 ≤ maxLen ∧ ∀ j, j < len1 → (Lit.int .u8 (z1 j)).wf = true) :
    Calls Try.prog 4 #[.slice a0 len0 cap0, .slice a1 len1 cap1] w fun e w' => e = .returned (.bool true) ∧ Below w.heap.size w w' := by
  exact again_walk a0 len0 cap0 z0 a1 len1 cap1 z1 w w0.1 w0.2.1 (by have := w0.2.2.1; unfold maxLen at this; omega) (fun j hj => u8_wf (w0.2.2.2 j hj)) w1.1 w1.2.1 (by have := w1.2.2.1; unfold maxLen at this; omega) (fun j hj => u8_wf (w1.2.2.2 j hj))

set_option maxRecDepth 100000 in
theorem lifted (os : Os) (started : os.Started) (H : Type) (enc : TypeId × Value → H) :
    ReturnsInHanded {} Try.checked os 4 .any (Rows.lexAgainSpec.pre6 enc Try.prog Try.f4 Rows.lexAgainRow.domain false) (Rows.lexAgainSpec.post enc Try.prog Try.f4 false true false false) := by
  refine returnsInHanded_of_change (C := Try.checked) own started (by kernel_rfl) Try.func4
    (ChangeSpec.witness6 (enc := enc) (C := Try.checked) false ⟨#[], #[.slice none 0 0, .slice none 0 0], []⟩ 8 (by kernel_rfl) (by kernel_rfl) (by kernel_rfl) (by kernel_rfl)) ?_
  intro W base args ds gs before hval0 hW hcnd _
  have hval : ∀ (j : Nat) t v, Try.f4.params[j]? = some t → args[j]? = some v → Value.okWide Try.prog W .any base t v := hval0
  have hW' := hW
  obtain ⟨p, q, hA0, hV, rfl, hfz, hnd⟩ := hW
  have hA : DataW.TrodAll enc Try.prog W 0 (fun _ => true) true Try.f4.params.toList args.toList ds p := hA0
  rw [Try.params4] at hA hval
  obtain ⟨v0, vs0, d0, ds0, p0, q0, hargs, rfl, rfl, h0, r0⟩ := trodAll_cons hA
  obtain ⟨v1, vs1, d1, ds1, p1, q1, rfl, rfl, rfl, h1, r1⟩ := trodAll_cons r0
  obtain ⟨rfl, rfl, rfl⟩ := trodAll_nil r1
  obtain rfl : args = #[v0, v1] := by cases args; simp_all
  obtain ⟨rfl, rfl⟩ := trodVars_none hV
  obtain ⟨a0, len0, cap0, rfl⟩ := okWide_slice Try.underlying22 (hval 0 22 v0 rfl rfl)
  have k0 := h0
  have lt0 : ∀ x ∈ p0, x.block < W.heap.size := by obtain ⟨m, hm⟩ := k0; exact DataW.trod_lt m _ _ _ hm
  obtain ⟨z0, w0⟩ : ∃ z0 : Nat → Int, Row W a0 len0 (fun i => .int .u8 (z0 i)) ∧ len0 ≤ cap0 ∧ cap0 ≤ maxLen ∧ ∀ j, j < len0 → (Lit.int .u8 (z0 j)).wf = true := by
    obtain ⟨fuel, hf⟩ := h0
    rcases open_ints Try.underlying22 Try.underlying5 (by kernel_rfl) hf with ⟨hcs, _⟩ | ⟨x, l, c, zs, hcs, _, hl, hm, hz, _, hcell, hwz⟩
    · simp [Value.cells] at hcs
      obtain ⟨rfl, rfl, rfl⟩ := hcs
      exact ⟨fun _ => 0, Row.nil, Nat.le_refl _, Nat.zero_le _, fun j hj => absurd hj (Nat.not_lt_zero j)⟩
    · simp [Value.cells] at hcs
      obtain ⟨rfl, rfl, rfl⟩ := hcs
      exact ⟨fun j => zs.getD j 0, Row.of_add hl (fun j hj => hcell j (by simp at hz; omega)), hl, hm, fun j hj => getD_all hwz (by simp at hz; omega)⟩
  obtain ⟨a1, len1, cap1, rfl⟩ := okWide_slice Try.underlying22 (hval 1 22 v1 rfl rfl)
  have k1 := h1
  have lt1 : ∀ x ∈ p1, x.block < W.heap.size := by obtain ⟨m, hm⟩ := k1; exact DataW.trod_lt m _ _ _ hm
  obtain ⟨z1, w1⟩ : ∃ z1 : Nat → Int, Row W a1 len1 (fun i => .int .u8 (z1 i)) ∧ len1 ≤ cap1 ∧ cap1 ≤ maxLen ∧ ∀ j, j < len1 → (Lit.int .u8 (z1 j)).wf = true := by
    obtain ⟨fuel, hf⟩ := h1
    rcases open_ints Try.underlying22 Try.underlying5 (by kernel_rfl) hf with ⟨hcs, _⟩ | ⟨x, l, c, zs, hcs, _, hl, hm, hz, _, hcell, hwz⟩
    · simp [Value.cells] at hcs
      obtain ⟨rfl, rfl, rfl⟩ := hcs
      exact ⟨fun _ => 0, Row.nil, Nat.le_refl _, Nat.zero_le _, fun j hj => absurd hj (Nat.not_lt_zero j)⟩
    · simp [Value.cells] at hcs
      obtain ⟨rfl, rfl, rfl⟩ := hcs
      exact ⟨fun j => zs.getD j 0, Row.of_add hl (fun j hj => hcell j (by simp at hz; omega)), hl, hm, fun j hj => getD_all hwz (by simp at hz; omega)⟩
  clear hA0 hval0
  refine (walk a0 len0 cap0 z0 a1 len1 cap1 z1 W w0 w1).mono fun e W' ⟨he, bel⟩ => ?_
  subst he
  exact ⟨_, rfl, _, _, _, [], _, [], hW', trodAll_mk1 (shut_bool Try.underlying4 _), (trodAll_cons_mk (Below.trod laidOut (by kernel_rfl) (of_decide_eq_true (by kernel_rfl)) k0 bel lt0) (trodAll_cons_mk (Below.trod laidOut (by kernel_rfl) (of_decide_eq_true (by kernel_rfl)) k1 bel lt1) trodAll_mk0)), rfl, bel.frame _, fun h => by cases h⟩

theorem over : Rows.lexAgainRow.holds Try.pinned (OpenSpec.ofChange Rows.lexAgainSpec) :=
  OpenClaim.holds_of_wide 4 Try.f4 rfl rfl rfl rfl rfl rfl rfl ⟨rfl, rfl, rfl, rfl, rfl⟩ rfl rfl rfl rfl rfl (by kernel_rfl) Try.func4 (by kernel_rfl)
    (of_decide_eq_true (by kernel_rfl)) (by unfold Func.isWrapper; first | (rw [if_pos (by decide +kernel)]; kernel_rfl) | (rw [if_neg (by decide +kernel)]; exact ⟨rfl, rfl⟩))
    (fun os started H enc _ => lifted os started H enc)

theorem proved : Rows.LexAgainSaid := over
#print axioms proved
end Go.Proofs.Ytomnomljljkdfaa.lexAgain

