/- ProfileApart: functions have nothing to do with each other, proved for any calls of two functions by turns. Conditions: none. -/
import Derived.Test.YtemdojckeghbjaaMore
import Derived.ProofKit
import Derived.OpenShut
import Derived.ShutString
import Derived.ChangeOld
import Derived.Deep.Grids
namespace Go.Proofs.Ytemdojckeghbjaa
open Go.RowKit
set_option linter.unusedVariables false
attribute [local go_sem] maxI minI

def duo (sa sb : Nat → Int) : Nat → Nat → Int := fun i => if i = 0 then sa else sb
def aft (s : Nat → Int) (x : Int) : Nat → Int := after (fun _ => s) 0 (fun _ => x) 1 0
theorem aft_par (s : Nat → Int) (x : Int) : aft s x 0 = s 0 := after_par _ _ _ _
theorem aft_one (s : Nat → Int) (x : Int) : ∀ i, i < 1 → ∀ j, j < 18 → after (fun _ => s) 0 (fun _ => x) 1 i j = aft s x j := by
  intro i hi j _
  have : i = 0 := by omega
  subst this; rfl
theorem aft_left (sa sb : Nat → Int) (x : Int) : ∀ i, i < 2 → ∀ j, j < 18 → after (duo sa sb) 0 (fun _ => x) 1 i j = duo (aft sa x) sb i j := by
  intro i _ j _
  by_cases h : i = 0
  · subst h; rfl
  · rw [after_other _ _ _ _ h]; simp only [duo, if_neg h]
theorem aft_right (sa sb : Nat → Int) (x : Int) : ∀ i, i < 2 → ∀ j, j < 18 → after (duo sa sb) 1 (fun _ => x) 1 i j = duo sa (aft sb x) i j := by
  intro i _ j _
  by_cases h : i = 0
  · subst h
    rw [after_other _ _ _ _ (by omega)]; rfl
  · have : i = 1 := by omega
    subst this; rfl

theorem Row.one {w : World} {b off : Nat} {v : Value} (h : w.cell? ⟨b, off, none⟩ = some v) : Row w (some ⟨b, off, none⟩) 1 (fun _ => v) := by
  intro i hi
  have : i = 0 := by omega
  subst this
  exact ⟨b, off, rfl, h⟩

set_option maxRecDepth 100000 in
set_option maxHeartbeats 8000000 in
theorem apart_walk (a0 : Option Addr) (len cap0 : Nat) (z : Nat → Int) (a1 : Option Addr) (len1 cap1 : Nat) (bz : Nat → Bool) (w : World) (hz : Row w a0 len (fun i => .int .i64 (z i))) (hcap : len ≤ cap0) (hbz : Row w a1 len1 (fun i => .bool (bz i))) :
    Calls Try.prog 6 #[.slice a0 len cap0, .slice a1 len1 cap1] w fun e w' => e = .returned (.bool true) ∧ Below w.heap.size w w' := by
  have HZ := hid hz
  have HBZ := hid hbz
  clear hz hbz
  go_enter Try.func6, Try.ntmps6
  go_wp2_with fail
  refine (shown_any _).mono ?_
  rintro e w1 ⟨rfl, hB⟩
  go_wp2_with fail
  refine (new_own 2 _ (fun _ => 1) w1 (by omega) (fun i hi => by match i, hi with | 0, _ => rfl | 1, _ => rfl)).mono ?_
  rintro e w2 ⟨gp, gl, cap, rfl, hP, hgp, hgl, hB2⟩
  have hs1 := hB.size
  have hB := hB.trans (hB2.mono hB.size)
  have hgp0 : w.heap.size ≤ gp := Nat.le_trans hs1 hgp
  have hl2 := hP.gl_lt (by omega)
  go_wp2_with fail
  refine (new_own 1 _ (fun _ => 1) w2 (by omega) (fun i hi => by match i, hi with | 0, _ => rfl)).mono ?_
  rintro e w3 ⟨ga, gla, capa, rfl, hPa, hga, hgla, hB3⟩
  have hB := hB.trans (hB3.mono hB.size)
  have hP := hP.below hB3 hP.gp_lt hl2
  have hl3 := hPa.gl_lt (by omega)
  go_wp2_with fail
  refine (new_own 1 _ (fun _ => 1) w3 (by omega) (fun i hi => by match i, hi with | 0, _ => rfl)).mono ?_
  rintro e w4 ⟨gb, glb, capb, rfl, hPb, hgb, hglb, hB4⟩
  have hB := hB.trans (hB4.mono hB.size)
  have hs4 := hB3.size
  have hP := hP.below hB4 (by omega) (by omega)
  have hPa := hPa.below hB4 (by omega) (by omega)
  have hgpb : gl < ga ∧ gla < gb := by omega
  go_wp2_with fail
  go_loopw [9] (fun i wr => ∃ (k : Nat) (sa sb : Nat → Int), k ≤ len ∧ k ≤ len1 ∧ i = .int .i64 k ∧ IsP wr gp gl 2 cap (duo sa sb) ∧ IsP wr ga gla 1 capa (fun _ => sa) ∧ IsP wr gb glb 1 capb (fun _ => sb) ∧ Hid (sa 0 = 1 ∧ sb 0 = 1) ∧ Below w.heap.size w wr)
    (fun i _ => len - (intOf i).toNat)
  case atStart =>
    refine ⟨0, init (fun _ => 1) 0, init (fun _ => 1) 0, Nat.zero_le _, Nat.zero_le _, rfl, hP.congr (fun i _ j _ => ?_), hPa.congr (fun i _ j _ => rfl), hPb.congr (fun i _ j _ => rfl), ⟨rfl, rfl⟩, hB⟩
    unfold duo
    split <;> rfl
  case round =>
    obtain ⟨k, sa, sb, hk, hk1, rfl, hp, hpa, hpb, H1, hb⟩ := hrel
    by_cases hlt : k < len
    · by_cases hlt1 : k < len1
      · by_cases h100 : k < 100
        · obtain ⟨b, off, rfl, hc0⟩ := HZ.out k hlt
          have hbs : b < w.heap.size := World.block_lt_of_cell? _ _ hc0
          have hc : wr.cell? ⟨b, off + k, none⟩ = some (.int .i64 (z k)) := (hb.cell (p := ⟨b, off + k, none⟩) hbs).trans hc0
          clear hc0
          generalize z k = x at hc
          obtain ⟨b1, off1, rfl, hd0⟩ := HBZ.out k hlt1
          have hbs1 : b1 < w.heap.size := World.block_lt_of_cell? _ _ hd0
          have hd : wr.cell? ⟨b1, off1 + k, none⟩ = some (.bool (bz k)) := (hb.cell (p := ⟨b1, off1 + k, none⟩) hbs1).trans hd0
          clear hd0
          have hbr : b < wr.heap.size := Nat.lt_of_lt_of_le hbs hb.size
          have hbl : b ≠ gl := by omega
          generalize bz k = q at hd
          cases q
          · go_wp2_with fail
            refine (see_ok gp gl 2 cap _ 0 0 rfl (some ⟨b, off + k, none⟩) 1 (cap0 - k) (fun _ => x) _ hp (by omega) (by exact H1.out.1.symm) (Row.one hc) (fun b' off' e => by injection e with e; injection e with e; omega) (by omega)).mono ?_
            rintro e w5 ⟨rfl, hp5, u5⟩
            have hp5 := hp5.congr (aft_left sa sb x)
            have hpa5 := hpa.upd u5 (by omega) (by omega)
            have hpb5 := hpb.upd u5 (by omega) (by omega)
            have hc5 : w5.cell? ⟨b, off + k, none⟩ = some (.int .i64 x) := (World.cell?_of_block (w := wr) (a := ⟨b, off + k, none⟩) (u5.block b hbr hbl)).trans hc
            go_wp2_with fail
            refine (see_ok ga gla 1 capa _ 0 0 rfl (some ⟨b, off + k, none⟩) 1 (cap0 - k) (fun _ => x) _ hpa5 (by omega) (by exact H1.out.1.symm) (Row.one hc5) (fun b' off' e => by injection e with e; injection e with e; omega) (by omega)).mono ?_
            rintro e w6 ⟨rfl, hpa6, u6⟩
            have hpa6 := hpa6.congr (aft_one sa x)
            have hpb6 := hpb5.upd u6 (by omega) (by omega)
            have hp6 := hp5.upd u6 (by omega) (by omega)
            have hb6 := hb.trans ((u5.below (B := w.heap.size) (by omega) hb.size).trans (u6.below (by omega) (Nat.le_trans hb.size u5.size)))
            have H6 : Hid (aft sa x 0 = 1 ∧ sb 0 = 1) := ⟨by first | exact H1.out.1 | exact (aft_par _ _).trans H1.out.1, by first | exact H1.out.2 | exact (aft_par _ _).trans H1.out.2⟩
            obtain ⟨sa', hsa⟩ : ∃ s, s = aft sa x := ⟨_, rfl⟩
            obtain ⟨sb', hsb⟩ : ∃ s, s = sb := ⟨_, rfl⟩
            have hp7 : IsP w6 gp gl 2 cap (duo sa' sb') := by rw [hsa, hsb]; exact hp6
            have hpa7 : IsP w6 ga gla 1 capa (fun _ => sa') := by rw [hsa]; exact hpa6
            have hpb7 : IsP w6 gb glb 1 capb (fun _ => sb') := by rw [hsb]; exact hpb6
            have H7 : Hid (sa' 0 = 1 ∧ sb' 0 = 1) := by rw [hsa, hsb]; exact H6
            clear hp6 hpa6 hpb6 hp5 hpa5 hpb5 H6 hsa hsb
            go_wp2_with fail
            refine (value_at gp gl 2 cap _ 0 0 rfl 0 0 rfl (sa' 2) (sa' 3) _ hp7 (by omega) (by show _ < sa' 0; rw [H7.out.1]; decide) rfl rfl).mono ?_
            rintro e w7 ⟨rfl, m7, rfl⟩
            go_wp2_with fail
            refine (value_at ga gla 1 capa _ 0 0 rfl 0 0 rfl (sa' 2) (sa' 3) _ (hpa7.drewN _) (by omega) (by show _ < sa' 0; rw [H7.out.1]; decide) rfl rfl).mono ?_
            rintro e w8 ⟨rfl, m8, rfl⟩
            go_wp2_with fail
            refine (value_at gp gl 2 cap _ 1 1 rfl 0 0 rfl (sb' 2) (sb' 3) _ (hp7.drewN _) (by omega) (by show _ < sb' 0; rw [H7.out.2]; decide) rfl rfl).mono ?_
            rintro e w9 ⟨rfl, m9, rfl⟩
            go_wp2_with fail
            refine (value_at gb glb 1 capb _ 0 0 rfl 0 0 rfl (sb' 2) (sb' 3) _ (hpb7.drewN _) (by omega) (by show _ < sb' 0; rw [H7.out.2]; decide) rfl rfl).mono ?_
            rintro e w10 ⟨rfl, m10, rfl⟩
            go_wp2_with fail
            refine (calls_at gp gl 2 cap _ 0 0 rfl (sa' 1) _ (hp7.drewN _) (by omega) rfl).mono ?_
            rintro e w11 ⟨rfl, rfl⟩
            go_wp2_with fail
            refine (calls_at ga gla 1 capa _ 0 0 rfl (sa' 1) _ (hpa7.drewN _) (by omega) rfl).mono ?_
            rintro e w12 ⟨rfl, rfl⟩
            go_wp2_with fail
            refine (calls_at gp gl 2 cap _ 1 1 rfl (sb' 1) _ (hp7.drewN _) (by omega) rfl).mono ?_
            rintro e w13 ⟨rfl, rfl⟩
            go_wp2_with fail
            refine (calls_at gb glb 1 capb _ 0 0 rfl (sb' 1) _ (hpb7.drewN _) (by omega) rfl).mono ?_
            rintro e w14 ⟨rfl, rfl⟩
            go_wp2_with fail
            go_roundw
            case rel => exact ⟨k + 1, sa', sb', by omega, by omega, by go_num, hp7.drewN _, hpa7.drewN _, hpb7.drewN _, H7, ⟨hb6.os, hb6.tape, hb6.output, hb6.size, hb6.block⟩⟩
            case measure => simp [intOf]; omega
          · go_wp2_with fail
            refine (see_ok gp gl 2 cap _ 1 1 rfl (some ⟨b, off + k, none⟩) 1 (cap0 - k) (fun _ => x) _ hp (by omega) (by exact H1.out.2.symm) (Row.one hc) (fun b' off' e => by injection e with e; injection e with e; omega) (by omega)).mono ?_
            rintro e w5 ⟨rfl, hp5, u5⟩
            have hp5 := hp5.congr (aft_right sa sb x)
            have hpa5 := hpa.upd u5 (by omega) (by omega)
            have hpb5 := hpb.upd u5 (by omega) (by omega)
            have hc5 : w5.cell? ⟨b, off + k, none⟩ = some (.int .i64 x) := (World.cell?_of_block (w := wr) (a := ⟨b, off + k, none⟩) (u5.block b hbr hbl)).trans hc
            go_wp2_with fail
            refine (see_ok gb glb 1 capb _ 0 0 rfl (some ⟨b, off + k, none⟩) 1 (cap0 - k) (fun _ => x) _ hpb5 (by omega) (by exact H1.out.2.symm) (Row.one hc5) (fun b' off' e => by injection e with e; injection e with e; omega) (by omega)).mono ?_
            rintro e w6 ⟨rfl, hpb6, u6⟩
            have hpb6 := hpb6.congr (aft_one sb x)
            have hpa6 := hpa5.upd u6 (by omega) (by omega)
            have hp6 := hp5.upd u6 (by omega) (by omega)
            have hb6 := hb.trans ((u5.below (B := w.heap.size) (by omega) hb.size).trans (u6.below (by omega) (Nat.le_trans hb.size u5.size)))
            have H6 : Hid (sa 0 = 1 ∧ aft sb x 0 = 1) := ⟨by first | exact H1.out.1 | exact (aft_par _ _).trans H1.out.1, by first | exact H1.out.2 | exact (aft_par _ _).trans H1.out.2⟩
            obtain ⟨sa', hsa⟩ : ∃ s, s = sa := ⟨_, rfl⟩
            obtain ⟨sb', hsb⟩ : ∃ s, s = aft sb x := ⟨_, rfl⟩
            have hp7 : IsP w6 gp gl 2 cap (duo sa' sb') := by rw [hsa, hsb]; exact hp6
            have hpa7 : IsP w6 ga gla 1 capa (fun _ => sa') := by rw [hsa]; exact hpa6
            have hpb7 : IsP w6 gb glb 1 capb (fun _ => sb') := by rw [hsb]; exact hpb6
            have H7 : Hid (sa' 0 = 1 ∧ sb' 0 = 1) := by rw [hsa, hsb]; exact H6
            clear hp6 hpa6 hpb6 hp5 hpa5 hpb5 H6 hsa hsb
            go_wp2_with fail
            refine (value_at gp gl 2 cap _ 0 0 rfl 0 0 rfl (sa' 2) (sa' 3) _ hp7 (by omega) (by show _ < sa' 0; rw [H7.out.1]; decide) rfl rfl).mono ?_
            rintro e w7 ⟨rfl, m7, rfl⟩
            go_wp2_with fail
            refine (value_at ga gla 1 capa _ 0 0 rfl 0 0 rfl (sa' 2) (sa' 3) _ (hpa7.drewN _) (by omega) (by show _ < sa' 0; rw [H7.out.1]; decide) rfl rfl).mono ?_
            rintro e w8 ⟨rfl, m8, rfl⟩
            go_wp2_with fail
            refine (value_at gp gl 2 cap _ 1 1 rfl 0 0 rfl (sb' 2) (sb' 3) _ (hp7.drewN _) (by omega) (by show _ < sb' 0; rw [H7.out.2]; decide) rfl rfl).mono ?_
            rintro e w9 ⟨rfl, m9, rfl⟩
            go_wp2_with fail
            refine (value_at gb glb 1 capb _ 0 0 rfl 0 0 rfl (sb' 2) (sb' 3) _ (hpb7.drewN _) (by omega) (by show _ < sb' 0; rw [H7.out.2]; decide) rfl rfl).mono ?_
            rintro e w10 ⟨rfl, m10, rfl⟩
            go_wp2_with fail
            refine (calls_at gp gl 2 cap _ 0 0 rfl (sa' 1) _ (hp7.drewN _) (by omega) rfl).mono ?_
            rintro e w11 ⟨rfl, rfl⟩
            go_wp2_with fail
            refine (calls_at ga gla 1 capa _ 0 0 rfl (sa' 1) _ (hpa7.drewN _) (by omega) rfl).mono ?_
            rintro e w12 ⟨rfl, rfl⟩
            go_wp2_with fail
            refine (calls_at gp gl 2 cap _ 1 1 rfl (sb' 1) _ (hp7.drewN _) (by omega) rfl).mono ?_
            rintro e w13 ⟨rfl, rfl⟩
            go_wp2_with fail
            refine (calls_at gb glb 1 capb _ 0 0 rfl (sb' 1) _ (hpb7.drewN _) (by omega) rfl).mono ?_
            rintro e w14 ⟨rfl, rfl⟩
            go_wp2_with fail
            go_roundw
            case rel => exact ⟨k + 1, sa', sb', by omega, by omega, by go_num, hp7.drewN _, hpa7.drewN _, hpb7.drewN _, H7, ⟨hb6.os, hb6.tape, hb6.output, hb6.size, hb6.block⟩⟩
            case measure => simp [intOf]; omega
        · go_wp2
          go_ret
          exact ⟨rfl, hb⟩
      · go_wp2
        go_ret
        exact ⟨rfl, hb⟩
    · go_wp2
      go_ret
      exact ⟨rfl, hb⟩

end Go.Proofs.Ytemdojckeghbjaa

namespace Go.Proofs.Ytemdojckeghbjaa.profileApart
open Go.ChangeShapes Go.WideShapes Go.ChangeAt Go.RowKit
open Go.ChangeMaps (open_string shut_string)
set_option linter.unusedVariables false

theorem own : ownKnob Try.prog.godebug = none := by kernel_rfl
theorem laidOut : laidOutB Try.prog = true := by kernel_rfl

theorem walk (a0 : Option Addr) (len0 cap0 : Nat) (z0 : Nat → Int) (a1 : Option Addr) (len1 cap1 : Nat) (z1 : Nat → Bool) (w : World) (w0 : Row w a0 len0 (fun i => .int .i64 (z0 i)) ∧ len0 ≤ cap0 ∧ cap0 ≤ maxLen ∧ ∀ j, j < len0 → (Lit.int .i64 (z0 j)).wf = true) (w1 : Row w a1 len1 (fun i => .bool (z1 i)) ∧ len1 ≤ cap1) :
    Calls Try.prog 6 #[.slice a0 len0 cap0, .slice a1 len1 cap1] w fun e w' => e = .returned (.bool true) ∧ Below w.heap.size w w' := by
  exact apart_walk a0 len0 cap0 z0 a1 len1 cap1 z1 w w0.1 w0.2.1 w1.1

set_option maxRecDepth 100000 in
theorem lifted (os : Os) (started : os.Started) (H : Type) (enc : TypeId × Value → H) :
    ReturnsInHanded {} Try.checked os 6 .any (Rows.profileApartSpec.pre6 enc Try.prog Try.f6 Rows.profileApartRow.domain false) (Rows.profileApartSpec.post enc Try.prog Try.f6 false true false false) := by
  refine returnsInHanded_of_change (C := Try.checked) own started (by kernel_rfl) Try.func6
    (ChangeSpec.witness6 (enc := enc) (C := Try.checked) false ⟨#[], #[.slice none 0 0, .slice none 0 0], []⟩ 8 (by kernel_rfl) (by kernel_rfl) (by kernel_rfl) (by kernel_rfl)) ?_
  intro W base args ds gs before hval0 hW hcnd _
  have hval : ∀ (j : Nat) t v, Try.f6.params[j]? = some t → args[j]? = some v → Value.okWide Try.prog W .any base t v := hval0
  have hW' := hW
  obtain ⟨p, q, hA0, hV, rfl, hfz, hnd⟩ := hW
  have hA : DataW.TrodAll enc Try.prog W 0 (fun _ => true) true Try.f6.params.toList args.toList ds p := hA0
  rw [Try.params6] at hA hval
  obtain ⟨v0, vs0, d0, ds0, p0, q0, hargs, rfl, rfl, h0, r0⟩ := trodAll_cons hA
  obtain ⟨v1, vs1, d1, ds1, p1, q1, rfl, rfl, rfl, h1, r1⟩ := trodAll_cons r0
  obtain ⟨rfl, rfl, rfl⟩ := trodAll_nil r1
  obtain rfl : args = #[v0, v1] := by cases args; simp_all
  obtain ⟨rfl, rfl⟩ := trodVars_none hV
  obtain ⟨a0, len0, cap0, rfl⟩ := okWide_slice Try.underlying31 (hval 0 31 v0 rfl rfl)
  have k0 := h0
  have lt0 : ∀ x ∈ p0, x.block < W.heap.size := by obtain ⟨m, hm⟩ := k0; exact DataW.trod_lt m _ _ _ hm
  obtain ⟨z0, w0⟩ : ∃ z0 : Nat → Int, Row W a0 len0 (fun i => .int .i64 (z0 i)) ∧ len0 ≤ cap0 ∧ cap0 ≤ maxLen ∧ ∀ j, j < len0 → (Lit.int .i64 (z0 j)).wf = true := by
    obtain ⟨fuel, hf⟩ := h0
    rcases open_ints Try.underlying31 Try.underlying2 (by kernel_rfl) hf with ⟨hcs, _⟩ | ⟨x, l, c, zs, hcs, _, hl, hm, hz, _, hcell, hwz⟩
    · simp [Value.cells] at hcs
      obtain ⟨rfl, rfl, rfl⟩ := hcs
      exact ⟨fun _ => 0, Row.nil, Nat.le_refl _, Nat.zero_le _, fun j hj => absurd hj (Nat.not_lt_zero j)⟩
    · simp [Value.cells] at hcs
      obtain ⟨rfl, rfl, rfl⟩ := hcs
      exact ⟨fun j => zs.getD j 0, Row.of_add hl (fun j hj => hcell j (by simp at hz; omega)), hl, hm, fun j hj => getD_all hwz (by simp at hz; omega)⟩
  obtain ⟨a1, len1, cap1, rfl⟩ := okWide_slice Try.underlying42 (hval 1 42 v1 rfl rfl)
  have k1 := h1
  have lt1 : ∀ x ∈ p1, x.block < W.heap.size := by obtain ⟨m, hm⟩ := k1; exact DataW.trod_lt m _ _ _ hm
  obtain ⟨z1, w1⟩ : ∃ z1 : Nat → Bool, Row W a1 len1 (fun i => .bool (z1 i)) ∧ len1 ≤ cap1 := by
    obtain ⟨fuel, hf⟩ := h1
    rcases Deep.open_bools Try.underlying42 Try.underlying4 (by kernel_rfl) hf with ⟨hcs, _⟩ | ⟨x, l, c, zs, hcs, _, hl, hm, _, hcell⟩
    · simp [Value.cells] at hcs
      obtain ⟨rfl, rfl, rfl⟩ := hcs
      exact ⟨fun _ => false, Row.nil, Nat.le_refl _⟩
    · simp [Value.cells] at hcs
      obtain ⟨rfl, rfl, rfl⟩ := hcs
      exact ⟨zs, Row.of_add hl hcell, hl⟩
  clear hA0 hval0
  refine (walk a0 len0 cap0 z0 a1 len1 cap1 z1 W w0 w1).mono fun e W' ⟨he, bel⟩ => ?_
  subst he
  exact ⟨_, rfl, _, _, _, [], _, [], hW', trodAll_mk1 (shut_bool Try.underlying4 _), (trodAll_cons_mk (Below.trod laidOut (by kernel_rfl) (of_decide_eq_true (by kernel_rfl)) k0 bel lt0) (trodAll_cons_mk (Below.trod laidOut (by kernel_rfl) (of_decide_eq_true (by kernel_rfl)) k1 bel lt1) trodAll_mk0)), rfl, bel.frame _, fun h => by cases h⟩

theorem over : Rows.profileApartRow.holds Try.pinned (OpenSpec.ofChange Rows.profileApartSpec) :=
  OpenClaim.holds_of_wide 6 Try.f6 rfl rfl rfl rfl rfl rfl rfl ⟨rfl, rfl, rfl, rfl, rfl⟩ rfl rfl rfl rfl rfl (by kernel_rfl) Try.func6 (by kernel_rfl)
    (of_decide_eq_true (by kernel_rfl)) (by unfold Func.isWrapper; first | (rw [if_pos (by decide +kernel)]; kernel_rfl) | (rw [if_neg (by decide +kernel)]; exact ⟨rfl, rfl⟩))
    (fun os started H enc _ => lifted os started H enc)

theorem proved : Rows.ProfileApartSaid := over
#print axioms proved
end Go.Proofs.Ytemdojckeghbjaa.profileApart

