/- ProfileWrong: what is refused changes nothing, proved for any functions and any calls. Conditions: none. -/
import Derived.Test.YtemdojckeghbjaaOpen
import Derived.Deep.RegionHeld3
import Derived.ProofKit
import Derived.OpenShut
import Derived.ShutString
import Derived.ChangeOld
import Derived.Deep.Grids
namespace Go.Proofs.Ytemdojckeghbjaa
open Go.RowKit
set_option linter.unusedVariables false
attribute [local go_sem] maxI minI

set_option maxRecDepth 100000 in
set_option maxHeartbeats 8000000 in
theorem wrong_walk (a0 : Option Addr) (len0 cap0 : Nat) (z : Nat → Int) (a1 : Option Addr) (len cap1 : Nat) (s : Nat → StepD) (w : World) (hz : Row w a0 len0 (fun i => .int .i64 (z i))) (hcap : len0 ≤ cap0) (hm0 : cap0 ≤ 9223372036854775807) (hs : Steps w a1 len s) :
    Calls Try.prog 7 #[.slice a0 len0 cap0, .slice a1 len cap1] w fun e w' => e = .returned (.bool true) ∧ Below w.heap.size w w' := by
  have HZ := hid hz
  have HS := hid hs
  clear hz hs
  obtain ⟨n, hn⟩ : ∃ n : Nat, min (len0 : Int) 6 = n := ⟨min len0 6, by omega⟩
  have hn6 : n ≤ 6 := by omega
  have hnl : n ≤ len0 := by omega
  have HN := hid hn
  go_enter Try.func7, Try.ntmps7
  go_wp2_with fail
  refine (shown_any _).mono ?_
  rintro e w1 ⟨rfl, hB⟩
  go_wp2_with fail
  refine (new_any a0 n cap0 z _ (by omega) ((HZ.out.le hnl).kept hB)).mono ?_
  rintro e w2 ⟨rfl, gla, capa, hPa, hgla, hB2⟩
  have hs1 := hB.size
  have hB := hB.trans (hB2.mono hs1)
  have hga : w.heap.size ≤ w1.heap.size := hs1
  have hgpa := hPa.gp_lt
  generalize w1.heap.size = ga at hPa hga hgla hgpa ⊢
  go_wp2_with fail
  refine (new_any a0 n cap0 z _ (by omega) ((HZ.out.le hnl).kept hB)).mono ?_
  rintro e w3 ⟨rfl, glb, capb, hPb, hglb, hB3⟩
  have hPa' : IsP w3 ga gla n capa (init z) := by
    refine hPa.kept fun g hg _ => hB3.block g hg
  have hap : 0 < n → gla < w2.heap.size := hPa.gl_lt
  have hs2 := hB.size
  have hB := hB.trans (hB3.mono hs2)
  have hgpb : ga < w2.heap.size := hgpa
  generalize w2.heap.size = gb at hPb hs2 hglb hgpb hap ⊢
  clear hPa
  go_wp2_with fail
  have hnn : 0 < n → gla < gb := hap
  go_loopw [8] (fun i wr => ∃ (k : Nat) (st : Nat → Nat → Int), k ≤ len ∧ i = .int .i64 k ∧ IsP wr ga gla n capa st ∧ IsP wr gb glb n capb st ∧ Hid (∀ i, i < n → st i 0 = min (max (z i) 0) 8) ∧ Below w.heap.size w wr)
    (fun i _ => len - (intOf i).toNat)
  case atStart => exact ⟨0, _, Nat.zero_le _, rfl, hPa', hPb, fun i _ => rfl, hB⟩
  case round =>
    obtain ⟨k, st, hk, rfl, hpa, hpb, hst, hb⟩ := hrel
    by_cases hlt : k < len
    · by_cases h40 : k < 40
      · obtain ⟨b, off, rfl, hd0⟩ := HS.out k hlt
        have hd := hd0.kept hb
        have hbs : b < w.heap.size := World.block_lt_of_cell? _ _ hd0.c0
        have hrow0 := hd0.row
        clear hd0
        generalize s k = d at hd hrow0
        obtain ⟨fn, tm, A, m, c, x⟩ := d
        obtain ⟨c0, c1, c2, hmc, hcm, hrow⟩ := hd
        dsimp only at c0 c1 c2 hmc hcm hrow hrow0
        unfold maxLen at hcm
        have HR : Hid (Row w A m (fun j => .int .i64 (x j))) := hrow0
        clear hrow c1 hrow0
        have hAlt : Hid (∀ b' off', 0 < m → A = some ⟨b', off', none⟩ → b' < w.heap.size) := fun b' off' h0 e => HR.out.lt h0 e
        obtain ⟨q, hq⟩ : ∃ q : Nat, min (m : Int) 10 = q := ⟨min m 10, by omega⟩
        have hq10 : q ≤ 10 := by omega
        have hqm : q ≤ m := by omega
        go_wp2_with fail
        go_quiet (fail)
        go_wp2_with fail
        obtain ⟨w4, hw4⟩ : ∃ w4, wr.drewN nq = w4 := ⟨_, rfl⟩
        rw [hw4]
        have hpa4 : IsP w4 ga gla n capa st := by rw [← hw4]; exact hpa.drewN _
        have hpb4 : IsP w4 gb glb n capb st := by rw [← hw4]; exact hpb.drewN _
        have hb4 : Below w.heap.size w w4 := by rw [← hw4]; exact ⟨hb.os, hb.tape, hb.output, hb.size, hb.block⟩
        have c04 : w4.cell? ⟨b, off + k * 3, none⟩ = some (.int .i64 fn) := by rw [← hw4]; exact c0
        clear hpa hpb hb c0 c2 hw4
        obtain ⟨E, hE⟩ : ∃ E, seeE n st fn q = E := ⟨_, rfl⟩
        have HE := hid hE
        clear hE
        obtain ⟨st', hst'⟩ : ∃ s', seeS n st fn x q = s' := ⟨_, rfl⟩
        have HST := hid hst'
        clear hst'
        have hn11 : Hid ((n : Int) < 0 ∨ (n : Int) ≤ (n : Int)) := .inr (Int.le_refl _)
        have hm11 : Hid ((-1 : Int) < 0 ∨ (n : Int) ≤ (-1 : Int)) := .inl (by omega)
        go_region_held3 (fun w' => w'.cell? ⟨b, off + k * 3, none⟩ = some (.int .i64 fn)) (first | assumption | (simp; assumption)) (first
          | (go_at_call_of 11 (Value.pointer (some ⟨ga, 0, none⟩)); refine (see_any ga gla n capa st fn _ A q c x (by first | exact hpa4 | exact hpa4.drew) ((HR.out.le hqm).kept (by exact hb4.drew)) (fun b' off' h0 e => by have := hAlt.out b' off' (by omega) e; omega) (by omega)).mono ?_; rintro e w5 ⟨rfl, hpa5, u5⟩
             rw [HE.out]
             rw [HST.out] at hpa5
             have hb5 : Below w.heap.size w w5 := hb4.drew.trans (u5.below (fun _ => by omega) hb4.size)
             have hpb5 := u5.isP hpb4.drew (fun h => by have := hnn h; omega) (fun h => by have := hnn h; omega)
             have c05 := (u5.cell (p := ⟨b, off + k * 3, none⟩) (Nat.lt_of_lt_of_le hbs hb4.size) (fun _ => by show b ≠ gla; omega)).trans c04)
          | (go_at_call_of 11 (Value.int IntKind.i64 fn); refine (see_any gb glb n capb st fn _ A q c x hpb5 ((HR.out.le hqm).kept hb5) (fun b' off' h0 e => by have := hAlt.out b' off' (by omega) e; omega) (by omega)).mono ?_; rintro e w6 ⟨rfl, hpb6, u6⟩
             rw [HE.out]
             rw [HST.out] at hpb6
             have hb6 : Below w.heap.size w w6 := hb5.trans (u6.below (fun _ => by omega) hb5.size)
             have hpa6 := u6.isP hpa5 (fun h => by omega) (fun h => by have := hnn h; omega)
             have c06 := (u6.cell (p := ⟨b, off + k * 3, none⟩) (Nat.lt_of_lt_of_le hbs hb5.size) (fun _ => by show b ≠ glb; omega)).trans c05)
          | (go_at_call_of 11 (Value.int IntKind.i64 (n : Int)); refine (see_none gb glb n capb st' _ A q c _ hpb6 hn11.out).mono ?_; rintro e w7 ⟨rfl, rfl⟩)
          | (go_at_call 11; refine (see_none gb glb n capb st' _ A q c _ hpb6 hm11.out).mono ?_; rintro e w7 ⟨rfl, rfl⟩))
        go_wp2_with fail
        clear hpa4 hpb4 hb4 c04 hpa5 hpb5 hb5 c05 u5 u6 HE hn11 hm11
        by_cases hf0 : fn < 0
        · have d1 : decide (fn ≥ 0) = false := by simp; omega
          go_quiet (fail)
          go_wp2_with fail
          obtain ⟨w9, hw9⟩ : ∃ w9, w7.drewN nq = w9 := ⟨_, rfl⟩
          rw [hw9]
          have hpa9 : IsP w9 ga gla n capa st' := by rw [← hw9]; exact hpa6.drewN _
          have hpb9 : IsP w9 gb glb n capb st' := by rw [← hw9]; exact hpb6.drewN _
          have hb9 : Below w.heap.size w w9 := by rw [← hw9]; exact ⟨hb6.os, hb6.tape, hb6.output, hb6.size, hb6.block⟩
          have c09 : w9.cell? ⟨b, off + k * 3, none⟩ = some (.int .i64 fn) := by rw [← hw9]; exact c06
          clear hpa6 hpb6 hb6 c06 hw9
          have hstp : Hid (∀ i, i < n → st' i 0 = min (max (z i) 0) 8) := fun i hi => by rw [← HST.out, seeS_par]; exact hst.out i hi
          go_loopw [10] (fun i wr => ∃ (j mm : Nat), j ≤ 8 ∧ i = .int .i64 j ∧ wr = w9.drewN mm)
            (fun i _ => 8 - (intOf i).toNat)
          case atStart => exact ⟨0, 0, by omega, rfl, rfl⟩
          case round =>
            obtain ⟨j, mm, hj, rfl, rfl⟩ := hrel
            by_cases hj8 : j < 8
            · obtain ⟨V, hV⟩ : ∃ V, valV n st' fn (j : Int) = V := ⟨_, rfl⟩
              obtain ⟨T, hT⟩ : ∃ V, valT n st' fn (j : Int) = V := ⟨_, rfl⟩
              obtain ⟨C, hC⟩ : ∃ V, callsV n st' fn = V := ⟨_, rfl⟩
              have HV := hid hV
              have HT := hid hT
              have HC := hid hC
              clear hV hT hC
              go_wp2_with fail
              refine (value_an ga gla n capa st' _ _ V T _ (hpa9.drewN _) HV.out HT.out).mono ?_
              rintro e w10 ⟨rfl, m10, rfl⟩
              go_wp2_with fail
              refine (value_an gb glb n capb st' _ _ V T _ (hpb9.drewN _) HV.out HT.out).mono ?_
              rintro e w11 ⟨rfl, m11, rfl⟩
              go_wp2_with fail
              obtain ⟨w12, hw12⟩ : ∃ w12, w9.drewN (mm + m10 + m11) = w12 := ⟨_, rfl⟩
              rw [hw12]
              have hpa12 : IsP w12 ga gla n capa st' := by rw [← hw12]; exact hpa9.drewN _
              have hpb12 : IsP w12 gb glb n capb st' := by rw [← hw12]; exact hpb9.drewN _
              have c012 : w12.cell? ⟨b, off + k * 3, none⟩ = some (.int .i64 fn) := by rw [← hw12]; exact c09
              have HW := hid hw12
              clear hw12
              go_quiet (first
                | (go_at_call_of 12 (Value.pointer (some ⟨ga, 0, none⟩)); exact Calls.quiet_of_same (calls_an ga gla n capa st' _ C _ (hpa12.drewN _) HC.out))
                | (go_at_call_of 12 (Value.pointer (some ⟨gb, 0, none⟩)); exact Calls.quiet_of_same (calls_an gb glb n capb st' _ C _ (hpb12.drewN _) HC.out)))
              go_wp2_with fail
              go_roundw
              case rel => exact ⟨j + 1, mm + m10 + m11 + nq, by omega, by go_num, by rw [← HW.out, World.drewN_drewN]⟩
              case measure => simp [intOf]; omega
            · go_wp2_with fail
              go_roundw
              case rel => exact ⟨k + 1, st', by omega, by go_num, hpa9.drewN _, hpb9.drewN _, hstp, ⟨hb9.os, hb9.tape, hb9.output, hb9.size, hb9.block⟩⟩
              case measure => simp [intOf]; omega
        · obtain ⟨f, rfl⟩ : ∃ f : Nat, fn = f := ⟨fn.toNat, by omega⟩
          by_cases hfn : f < n
          · obtain ⟨bz, oz, rfl, hcz0⟩ := HZ.out f (by omega)
            have hbz : bz < w.heap.size := World.block_lt_of_cell? _ _ hcz0
            have hcz : w7.cell? ⟨bz, oz + f, none⟩ = some (.int .i64 (z f)) := (hb6.cell (p := ⟨bz, oz + f, none⟩) hbz).trans hcz0
            clear hcz0
            have hsf : Hid (st' f 0 = min (max (z f) 0) 8) := by unfold Hid; rw [← HST.out, seeS_par]; exact hst.out f hfn
            obtain ⟨sz, hsz⟩ : ∃ sz : Nat, min (max (z f) 0) 8 = (sz : Int) := ⟨(min (max (z f) 0) 8).toNat, by omega⟩
            have hs8 : sz ≤ 8 := by omega
            have HSZ := hid hsz
            have hmk : ∀ w, (Instr.makeSlice 31 (.int .i64 ((sz : Int) + 1)) (.int .i64 ((sz : Int) + 1))).run Try.prog w = .ok (.slice (some ⟨w.heap.size, 0, none⟩) (sz + 1) (sz + 1)) (w.alloc (.cells (zeros (sz + 1)) 2)) := fun w => by
              have := make_run (sz + 1) (by omega) w
              rwa [show ((sz + 1 : Nat) : Int) = (sz : Int) + 1 from by omega] at this
            have hwr : IntKind.i64.wrap ((sz : Int) + 1) = (sz : Int) + 1 := IntWalk.i64_in _ (by omega)
            have d1 : decide ((f : Int) ≥ 0) = true := by simp
            have d2 : decide ((f : Int) < (n : Int)) = true := by simp; omega
            have hfn' : (f : Int) < (n : Int) := by omega
            have hbw : bz < w7.heap.size := Nat.lt_of_lt_of_le hbz hb6.size
            have hbw2 : b < w7.heap.size := Nat.lt_of_lt_of_le hbs hb6.size
            have en1 := World.new_ne w7 ⟨b, off + k * 3, none⟩ c06
            have en2 := World.new_ne w7 ⟨bz, oz + f, none⟩ hcz
            have hne : Hid (((sz + 1 : Nat) : Int) ≠ st' f 0) := by unfold Hid; rw [hsf.out, HSZ.out]; omega
            go_region_held3 (fun w' => w'.cell? ⟨b, off + k * 3, none⟩ = some (.int .i64 (f : Int)) ∧ w'.cell? ⟨bz, oz + f, none⟩ = some (.int .i64 (z f))) (go_keep) (first
              | (go_at_call 11; refine (see_arg gb glb n capb st' _ f rfl _ (sz + 1) (sz + 1) _ (by first | exact hpb6.drew.alloc _ | exact (hpb6.alloc _).drew) hfn hne.out).mono ?_; rintro e w8 ⟨rfl, rfl⟩))
            go_wp2_with fail
            obtain ⟨w9, hw9⟩ : ∃ w9, (w7.alloc (Obj.cells (zeros (sz + 1)) 2)).drew = w9 := ⟨_, rfl⟩
            rw [hw9]
            have hpa9 : IsP w9 ga gla n capa st' := by rw [← hw9]; exact (hpa6.alloc _).drew
            have hpb9 : IsP w9 gb glb n capb st' := by rw [← hw9]; exact (hpb6.alloc _).drew
            have hb9 : Below w.heap.size w w9 := by rw [← hw9]; exact (hb6.alloc hb6.size _).drew
            have c09 : w9.cell? ⟨b, off + k * 3, none⟩ = some (.int .i64 (f : Int)) := by rw [← hw9]; exact (World.cell?_alloc_lt _ _ _ (by exact hbw2)).trans c06
            clear hpa6 hpb6 hb6 c06 hw9
            have hstp : Hid (∀ i, i < n → st' i 0 = min (max (z i) 0) 8) := fun i hi => by rw [← HST.out, seeS_par]; exact hst.out i hi
            go_loopw [10] (fun i wr => ∃ (j mm : Nat), j ≤ 8 ∧ i = .int .i64 j ∧ wr = w9.drewN mm)
              (fun i _ => 8 - (intOf i).toNat)
            case atStart => exact ⟨0, 0, by omega, rfl, rfl⟩
            case round =>
              obtain ⟨j, mm, hj, rfl, rfl⟩ := hrel
              by_cases hj8 : j < 8
              · obtain ⟨V, hV⟩ : ∃ V, valV n st' (f : Int) (j : Int) = V := ⟨_, rfl⟩
                obtain ⟨T, hT⟩ : ∃ V, valT n st' (f : Int) (j : Int) = V := ⟨_, rfl⟩
                obtain ⟨C, hC⟩ : ∃ V, callsV n st' (f : Int) = V := ⟨_, rfl⟩
                have HV := hid hV
                have HT := hid hT
                have HC := hid hC
                clear hV hT hC
                go_wp2_with fail
                refine (value_an ga gla n capa st' _ _ V T _ (hpa9.drewN _) HV.out HT.out).mono ?_
                rintro e w10 ⟨rfl, m10, rfl⟩
                go_wp2_with fail
                refine (value_an gb glb n capb st' _ _ V T _ (hpb9.drewN _) HV.out HT.out).mono ?_
                rintro e w11 ⟨rfl, m11, rfl⟩
                go_wp2_with fail
                obtain ⟨w12, hw12⟩ : ∃ w12, w9.drewN (mm + m10 + m11) = w12 := ⟨_, rfl⟩
                rw [hw12]
                have hpa12 : IsP w12 ga gla n capa st' := by rw [← hw12]; exact hpa9.drewN _
                have hpb12 : IsP w12 gb glb n capb st' := by rw [← hw12]; exact hpb9.drewN _
                have c012 : w12.cell? ⟨b, off + k * 3, none⟩ = some (.int .i64 (f : Int)) := by rw [← hw12]; exact c09
                have HW := hid hw12
                clear hw12
                go_quiet (first
                  | (go_at_call_of 12 (Value.pointer (some ⟨ga, 0, none⟩)); exact Calls.quiet_of_same (calls_an ga gla n capa st' _ C _ (hpa12.drewN _) HC.out))
                  | (go_at_call_of 12 (Value.pointer (some ⟨gb, 0, none⟩)); exact Calls.quiet_of_same (calls_an gb glb n capb st' _ C _ (hpb12.drewN _) HC.out)))
                go_wp2_with fail
                go_roundw
                case rel => exact ⟨j + 1, mm + m10 + m11 + nq, by omega, by go_num, by rw [← HW.out, World.drewN_drewN]⟩
                case measure => simp [intOf]; omega
              · go_wp2_with fail
                go_roundw
                case rel => exact ⟨k + 1, st', by omega, by go_num, hpa9.drewN _, hpb9.drewN _, hstp, ⟨hb9.os, hb9.tape, hb9.output, hb9.size, hb9.block⟩⟩
                case measure => simp [intOf]; omega
          · have d1 : decide ((f : Int) ≥ 0) = true := by simp
            have d2 : decide ((f : Int) < (n : Int)) = false := by simp; omega
            have hfn' : (n : Int) ≤ (f : Int) := by omega
            go_quiet (fail)
            go_wp2_with fail
            obtain ⟨w9, hw9⟩ : ∃ w9, w7.drewN nq = w9 := ⟨_, rfl⟩
            rw [hw9]
            have hpa9 : IsP w9 ga gla n capa st' := by rw [← hw9]; exact hpa6.drewN _
            have hpb9 : IsP w9 gb glb n capb st' := by rw [← hw9]; exact hpb6.drewN _
            have hb9 : Below w.heap.size w w9 := by rw [← hw9]; exact ⟨hb6.os, hb6.tape, hb6.output, hb6.size, hb6.block⟩
            have c09 : w9.cell? ⟨b, off + k * 3, none⟩ = some (.int .i64 (f : Int)) := by rw [← hw9]; exact c06
            clear hpa6 hpb6 hb6 c06 hw9
            have hstp : Hid (∀ i, i < n → st' i 0 = min (max (z i) 0) 8) := fun i hi => by rw [← HST.out, seeS_par]; exact hst.out i hi
            go_loopw [10] (fun i wr => ∃ (j mm : Nat), j ≤ 8 ∧ i = .int .i64 j ∧ wr = w9.drewN mm)
              (fun i _ => 8 - (intOf i).toNat)
            case atStart => exact ⟨0, 0, by omega, rfl, rfl⟩
            case round =>
              obtain ⟨j, mm, hj, rfl, rfl⟩ := hrel
              by_cases hj8 : j < 8
              · obtain ⟨V, hV⟩ : ∃ V, valV n st' (f : Int) (j : Int) = V := ⟨_, rfl⟩
                obtain ⟨T, hT⟩ : ∃ V, valT n st' (f : Int) (j : Int) = V := ⟨_, rfl⟩
                obtain ⟨C, hC⟩ : ∃ V, callsV n st' (f : Int) = V := ⟨_, rfl⟩
                have HV := hid hV
                have HT := hid hT
                have HC := hid hC
                clear hV hT hC
                go_wp2_with fail
                refine (value_an ga gla n capa st' _ _ V T _ (hpa9.drewN _) HV.out HT.out).mono ?_
                rintro e w10 ⟨rfl, m10, rfl⟩
                go_wp2_with fail
                refine (value_an gb glb n capb st' _ _ V T _ (hpb9.drewN _) HV.out HT.out).mono ?_
                rintro e w11 ⟨rfl, m11, rfl⟩
                go_wp2_with fail
                obtain ⟨w12, hw12⟩ : ∃ w12, w9.drewN (mm + m10 + m11) = w12 := ⟨_, rfl⟩
                rw [hw12]
                have hpa12 : IsP w12 ga gla n capa st' := by rw [← hw12]; exact hpa9.drewN _
                have hpb12 : IsP w12 gb glb n capb st' := by rw [← hw12]; exact hpb9.drewN _
                have c012 : w12.cell? ⟨b, off + k * 3, none⟩ = some (.int .i64 (f : Int)) := by rw [← hw12]; exact c09
                have HW := hid hw12
                clear hw12
                go_quiet (first
                  | (go_at_call_of 12 (Value.pointer (some ⟨ga, 0, none⟩)); exact Calls.quiet_of_same (calls_an ga gla n capa st' _ C _ (hpa12.drewN _) HC.out))
                  | (go_at_call_of 12 (Value.pointer (some ⟨gb, 0, none⟩)); exact Calls.quiet_of_same (calls_an gb glb n capb st' _ C _ (hpb12.drewN _) HC.out)))
                go_wp2_with fail
                go_roundw
                case rel => exact ⟨j + 1, mm + m10 + m11 + nq, by omega, by go_num, by rw [← HW.out, World.drewN_drewN]⟩
                case measure => simp [intOf]; omega
              · go_wp2_with fail
                go_roundw
                case rel => exact ⟨k + 1, st', by omega, by go_num, hpa9.drewN _, hpb9.drewN _, hstp, ⟨hb9.os, hb9.tape, hb9.output, hb9.size, hb9.block⟩⟩
                case measure => simp [intOf]; omega
      · go_wp2
        go_ret
        exact ⟨rfl, hb⟩
    · go_wp2
      go_ret
      exact ⟨rfl, hb⟩

end Go.Proofs.Ytemdojckeghbjaa

namespace Go.Proofs.Ytemdojckeghbjaa.profileWrong
open Go.ChangeShapes Go.WideShapes Go.ChangeAt Go.RowKit
open Go.ChangeMaps (open_string shut_string)
set_option linter.unusedVariables false

theorem own : ownKnob Try.prog.godebug = none := by kernel_rfl
theorem laidOut : laidOutB Try.prog = true := by kernel_rfl

theorem walk (a0 : Option Addr) (len0 cap0 : Nat) (z0 : Nat → Int) (a1 : Option Addr) (len1 cap1 : Nat) (z1 : Nat → StepD) (w : World) (w0 : Row w a0 len0 (fun i => .int .i64 (z0 i)) ∧ len0 ≤ cap0 ∧ cap0 ≤ maxLen ∧ ∀ j, j < len0 → (Lit.int .i64 (z0 j)).wf = true) (w1 : Steps w a1 len1 z1) :
    Calls Try.prog 7 #[.slice a0 len0 cap0, .slice a1 len1 cap1] w fun e w' => e = .returned (.bool true) ∧ Below w.heap.size w w' := by
  exact wrong_walk a0 len0 cap0 z0 a1 len1 cap1 z1 w w0.1 w0.2.1 (by have := w0.2.2.1; unfold maxLen at this; omega) w1

set_option maxRecDepth 100000 in
theorem lifted (os : Os) (started : os.Started) (H : Type) (enc : TypeId × Value → H) :
    ReturnsInHanded {} Try.checked os 7 .any (Rows.profileWrongSpec.pre6 enc Try.prog Try.f7 Rows.profileWrongRow.domain false) (Rows.profileWrongSpec.post enc Try.prog Try.f7 false true false false) := by
  refine returnsInHanded_of_change (C := Try.checked) own started (by kernel_rfl) Try.func7
    (ChangeSpec.witness6 (enc := enc) (C := Try.checked) false ⟨#[], #[.slice none 0 0, .slice none 0 0], []⟩ 8 (by kernel_rfl) (by kernel_rfl) (by kernel_rfl) (by kernel_rfl)) ?_
  intro W base args ds gs before hval0 hW hcnd _
  have hval : ∀ (j : Nat) t v, Try.f7.params[j]? = some t → args[j]? = some v → Value.okWide Try.prog W .any base t v := hval0
  have hW' := hW
  obtain ⟨p, q, hA0, hV, rfl, hfz, hnd⟩ := hW
  have hA : DataW.TrodAll enc Try.prog W 0 (fun _ => true) true Try.f7.params.toList args.toList ds p := hA0
  rw [Try.params7] at hA hval
  obtain ⟨v0, vs0, d0, ds0, p0, q0, hargs, rfl, rfl, h0, r0⟩ := trodAll_cons hA
  obtain ⟨v1, vs1, d1, ds1, p1, q1, rfl, rfl, rfl, h1, r1⟩ := trodAll_cons r0
  obtain ⟨rfl, rfl, rfl⟩ := trodAll_nil r1
  obtain rfl : args = #[v0, v1] := by cases args; simp_all
  obtain ⟨rfl, rfl⟩ := trodVars_none hV
  obtain ⟨a0, len0, cap0, rfl⟩ := okWide_slice Try.underlying22 (hval 0 22 v0 rfl rfl)
  have k0 := h0
  have lt0 : ∀ x ∈ p0, x.block < W.heap.size := by obtain ⟨m, hm⟩ := k0; exact DataW.trod_lt m _ _ _ hm
  obtain ⟨z0, w0⟩ : ∃ z0 : Nat → Int, Row W a0 len0 (fun i => .int .i64 (z0 i)) ∧ len0 ≤ cap0 ∧ cap0 ≤ maxLen ∧ ∀ j, j < len0 → (Lit.int .i64 (z0 j)).wf = true := by
    obtain ⟨fuel, hf⟩ := h0
    rcases open_ints Try.underlying22 Try.underlying3 (by kernel_rfl) hf with ⟨hcs, _⟩ | ⟨x, l, c, zs, hcs, _, hl, hm, hz, _, hcell, hwz⟩
    · simp [Value.cells] at hcs
      obtain ⟨rfl, rfl, rfl⟩ := hcs
      exact ⟨fun _ => 0, Row.nil, Nat.le_refl _, Nat.zero_le _, fun j hj => absurd hj (Nat.not_lt_zero j)⟩
    · simp [Value.cells] at hcs
      obtain ⟨rfl, rfl, rfl⟩ := hcs
      exact ⟨fun j => zs.getD j 0, Row.of_add hl (fun j hj => hcell j (by simp at hz; omega)), hl, hm, fun j hj => getD_all hwz (by simp at hz; omega)⟩
  obtain ⟨a1, len1, cap1, rfl⟩ := okWide_slice Try.underlying23 (hval 1 23 v1 rfl rfl)
  have k1 := h1
  have lt1 : ∀ x ∈ p1, x.block < W.heap.size := by obtain ⟨m, hm⟩ := k1; exact DataW.trod_lt m _ _ _ hm
  obtain ⟨z1, w1⟩ : ∃ z1 : Nat → StepD, Steps W a1 len1 z1 := by
    obtain ⟨fuel, hf⟩ := h1
    rcases open_steps hf with ⟨hcs, _⟩ | ⟨x, l, c, zs, hcs, hl, hst⟩
    · simp [Value.cells] at hcs
      obtain ⟨rfl, rfl, rfl⟩ := hcs
      exact ⟨fun _ => default, fun i hi => absurd hi (Nat.not_lt_zero i)⟩
    · simp [Value.cells] at hcs
      obtain ⟨rfl, rfl, rfl⟩ := hcs
      exact ⟨zs, hst⟩
  clear hA0 hval0
  refine (walk a0 len0 cap0 z0 a1 len1 cap1 z1 W w0 w1).mono fun e W' ⟨he, bel⟩ => ?_
  subst he
  exact ⟨_, rfl, _, _, _, [], _, [], hW', trodAll_mk1 (shut_bool Try.underlying4 _), (trodAll_cons_mk (Below.trod laidOut (by kernel_rfl) (of_decide_eq_true (by kernel_rfl)) k0 bel lt0) (trodAll_cons_mk (Below.trod laidOut (by kernel_rfl) (of_decide_eq_true (by kernel_rfl)) k1 bel lt1) trodAll_mk0)), rfl, bel.frame _, fun h => by cases h⟩

theorem over : Rows.profileWrongRow.holds Try.pinned (OpenSpec.ofChange Rows.profileWrongSpec) :=
  OpenClaim.holds_of_wide 7 Try.f7 rfl rfl rfl rfl rfl rfl rfl ⟨rfl, rfl, rfl, rfl, rfl⟩ rfl rfl rfl rfl rfl (by kernel_rfl) Try.func7 (by kernel_rfl)
    (of_decide_eq_true (by kernel_rfl)) (by unfold Func.isWrapper; first | (rw [if_pos (by decide +kernel)]; kernel_rfl) | (rw [if_neg (by decide +kernel)]; exact ⟨rfl, rfl⟩))
    (fun os started H enc _ => lifted os started H enc)

theorem proved : Rows.ProfileWrongSaid := over
#print axioms proved
end Go.Proofs.Ytemdojckeghbjaa.profileWrong

