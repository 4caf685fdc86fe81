/- The contract of profile.New. Conditions: at most a million functions. -/
import Derived.Test.YtemdojckeghbjaaBase
import Derived.Deep.AppendLies
namespace Go.Proofs.Ytemdojckeghbjaa
open Go.RowKit
set_option linter.unusedVariables false
attribute [local go_sem] maxI minI

theorem info51 : ∃ i z, Try.prog.info? 51 = some i ∧ i.zero = some z ∧ i.size = 18 ∧ i.bytes = 144 ∧ z.cells.size = 18 := by
  have h : (Try.prog.info? 51).map (fun i => (i.zero.map (·.cells.size), i.size, i.bytes)) = some (some 18, 18, 144) := by kernel_rfl
  cases hi : Try.prog.info? 51 with
  | none => rw [hi] at h; cases h
  | some i =>
    rw [hi] at h
    simp only [Option.map_some, Option.some.injEq, Prod.mk.injEq] at h
    obtain ⟨h1, h2, h3⟩ := h
    cases hz : i.zero with
    | none => rw [hz] at h1; cases h1
    | some z =>
      rw [hz] at h1
      exact ⟨i, z, rfl, hz, h2, h3, by simpa using h1⟩

/-- A value that owns a row of one kind lies in no block of another kind. -/
theorem own_ne {w : World} {base g : Nat} {e t : TypeId} {size n : Nat} {v : Value} {xs : List Value} {cs : Array Value} (h : w.ownsRow base e size v n xs) (hg : Blk w g t cs) (hne : e ≠ t) : v.ownBlock ≠ some g := by
  rcases h.2 with ⟨rfl, _⟩ | ⟨g', cap, cur, rfl, _, hh, _⟩
  · simp [Value.ownBlock]
  · intro he
    have : g' = g := by simpa [Value.ownBlock] using he
    subst this
    exact Blk.ne_ (t := e) (cs := cur) hh hg hne rfl

/-- A new function's cells. -/
def newF (n : Int) : List Value := (.int .i64 (min (max n 0) 8)) :: List.replicate 17 (.int .i64 0)
theorem newF_one (n : Int) : ∀ u ∈ newF n, u.oneCell' = true := by
  intro u hu
  simp only [newF, List.mem_cons, List.mem_replicate] at hu
  rcases hu with rfl | ⟨_, rfl⟩ <;> rfl
def newFs (z : Nat → Int) : Nat → List Value
  | 0 => []
  | k + 1 => newFs z k ++ newF (z k)

set_option maxHeartbeats 1000000 in
set_option maxRecDepth 100000 in
theorem new_walk (A : Option Addr) (m c : Nat) (z : Nat → Int) (w : World) (hm : m ≤ 1000000) (hA : Row w A m (fun j => .int .i64 (z j))) :
    Calls Try.prog 9 #[.slice A m c] w fun e w' => e = .returned (.pointer (some ⟨w.heap.size, 0, none⟩)) ∧ ∃ v, Blk w' w.heap.size 46 #[v] ∧ w'.ownsRow (w.heap.size + 1) 51 18 v m (newFs z m) ∧ Below w.heap.size w w' ∧ Hid (m = 0 → v = .slice none 0 0) := by
  have HA := hid hA
  clear hA
  have hu46 := Try.underlying46
  have hu51 := Try.underlying51
  go_enter Try.func9, Try.ntmps9
  go_wp2_with fail
  go_loopw [10] (fun q wr => ∃ (k : Nat) (v : Value), k ≤ m ∧ q = .int .i64 k ∧ Blk wr w.heap.size 46 #[v] ∧ wr.ownsRow (w.heap.size + 1) 51 18 v k (newFs z k) ∧ Below w.heap.size w wr ∧ Hid (k = 0 → v = .slice none 0 0))
    (fun q _ => m - (intOf q).toNat)
  case atStart => exact ⟨0, .slice none 0 0, Nat.zero_le _, rfl, Blk.new _ _ _, World.ownsRow_nil _ _ _ _, (Below.refl _ _).alloc (Nat.le_refl _) _, fun _ => rfl⟩
  case round =>
    obtain ⟨k, v, hk, rfl, hp, ho, hb, hz⟩ := hrel
    by_cases hlt : k < m
    · obtain ⟨b, off, rfl, hc⟩ := HA.out k hlt
      have hbs : b < w.heap.size := World.block_lt_of_cell? _ _ hc
      have hc' : wr.cell? ⟨b, off + k, none⟩ = some (.int .i64 (z k)) := (hb.cell (p := ⟨b, off + k, none⟩) hbs).trans hc
      clear hc
      have hp0 : wr.cell? ⟨w.heap.size, 0, none⟩ = some v := hp.cell 0
      have hf0 := hp.fz 0
      obtain ⟨i0, z0, hi0, hz0, hz1, hz2, hz3⟩ := info51
      have h63 : k + 1 ≤ maxLen := by unfold maxLen; omega
      have h1c : Hid (∀ u ∈ newF (z k), u.oneCell' = true) := newF_one _
      have hbs1 : w.heap.size + 1 ≤ wr.heap.size := hp.lt
      have hne : Hid (v.ownBlock ≠ some w.heap.size) := own_ne ho hp (by decide)
      go_wp2_with (at_builtin
                   refine wpList_append_lies _ rfl (.tmp 18) (.tmp 23) 44 rfl (w.heap.size + 1) 51 i0 z0 18 144 Try.underlying44 hi0 hz0 hz1 hz2 hz3 (by omega) v k (newFs z k) rfl (ho.alloc _) ⟨wr.heap.size, 0, none⟩ 1 1 (newF (z k)) rfl rfl (World.news_of_block (heap_alloc_new wr _)) h1c.out (by omega) h63 (by omega) (by simp; omega) (wr.heap.size + 1) (by simp) ?_
                   intro g cap w1 hown hgr hat hgl
                   have hp1 : Blk w1 w.heap.size 46 #[v] := (hgr.block _ (hp.alloc _).lt (fun e => hne.out e.symm)).trans (hp.alloc _)
                   have hp10 : w1.cell? ⟨w.heap.size, 0, none⟩ = some v := hp1.cell 0
                   have hf10 := hp1.fz 0)
      go_roundw
      case rel =>
        refine ⟨k + 1, _, by omega, by go_num, hp1.set 0 _, ?_, ?_, fun e => absurd e (by omega)⟩
        · refine ownsRow_setCell_other hown ?_ _
          exact fun e => own_ne hown hp1 (by decide) e
        · exact ((hb.alloc hb.size _).grown hgr (by simp; omega) (fun q hq => by have := (ho.lt q hq).1; omega)).setCell (Nat.le_refl _) _
      case measure => simp [intOf]; omega
    · have hkm : k = m := by omega
      subst hkm
      go_wp2_with fail
      go_ret
      exact ⟨rfl, v, hp, ho, hb, hz⟩

/-- A new table. -/
def init (z : Nat → Int) : Nat → Nat → Int := fun i j => if j = 0 then min (max (z i) 0) 8 else 0

theorem newF_len (n : Int) : (newF n).length = 18 := rfl
theorem newFs_len (z : Nat → Int) (m : Nat) : (newFs z m).length = m * 18 := by
  induction m with
  | zero => rfl
  | succ m ih => show (newFs z m ++ newF (z m)).length = _; rw [List.length_append, ih, newF_len]; omega
theorem newF_get (n : Int) (j : Nat) (hj : j < 18) : (newF n)[j]? = some (.int .i64 (if j = 0 then min (max n 0) 8 else 0)) := by
  cases j with
  | zero => rfl
  | succ j =>
    rw [if_neg (by omega)]
    show (List.replicate 17 (Value.int .i64 0))[j]? = _
    rw [List.getElem?_replicate, if_pos (by omega)]
theorem newFs_get (z : Nat → Int) (m i j : Nat) (hi : i < m) (hj : j < 18) : (newFs z m)[i * 18 + j]? = some (.int .i64 (init z i j)) := by
  induction m with
  | zero => omega
  | succ m ih =>
    show (newFs z m ++ newF (z m))[i * 18 + j]? = _
    by_cases h : i < m
    · rw [List.getElem?_append_left (by rw [newFs_len]; omega), ih h]
    · have : i = m := by omega
      subst this
      rw [List.getElem?_append_right (by rw [newFs_len]; omega), newFs_len, show i * 18 + j - i * 18 = j from by omega, newF_get _ _ hj]
      rfl

theorem init_good (z : Nat → Int) (m : Nat) : Good (init z) m := by
  intro i _
  refine ⟨?_, ?_, fun k _ => ?_⟩
  · unfold init; rw [if_pos rfl]; omega
  · unfold init; rw [if_neg (by omega)]; omega
  · unfold init; rw [if_neg (by omega)]; omega

theorem new_any (A : Option Addr) (m c : Nat) (z : Nat → Int) (w : World) (hm : m ≤ 1000000) (hA : Row w A m (fun j => .int .i64 (z j))) :
    Calls Try.prog 9 #[.slice A m c] w fun e w' => e = .returned (.pointer (some ⟨w.heap.size, 0, none⟩)) ∧ ∃ gl cap, IsP w' w.heap.size gl m cap (init z) ∧ w.heap.size < gl ∧ Below w.heap.size w w' := by
  refine (new_walk A m c z w hm hA).mono ?_
  rintro e w' ⟨he, v, hv, ho, hb, hz⟩
  refine ⟨he, ?_⟩
  rcases ho.2 with ⟨rfl, rfl⟩ | ⟨g, cap, cur, rfl, hg, hh, hn, hcap, hsz, htk⟩
  · exact ⟨w.heap.size + 1, 0, ⟨hv, fun h => absurd h (Nat.lt_irrefl _), hm, init_good z 0⟩, Nat.lt_succ_self _, hb⟩
  · by_cases h0 : m = 0
    · subst h0
      exact absurd (hz.out rfl) (by simp)
    · refine ⟨g, cap, ⟨?_, fun _ => ⟨cur, hh, ?_⟩, hm, init_good z m⟩, hg, hb⟩
      · rw [show adr g m = some ⟨g, 0, none⟩ from if_neg h0]; exact hv
      · intro i hi j hj
        have h1 := newFs_get z m i j hi hj
        rw [← htk, List.getElem?_take, if_pos (by omega)] at h1
        rw [← h1, Array.getElem?_toList]

end Go.Proofs.Ytemdojckeghbjaa
