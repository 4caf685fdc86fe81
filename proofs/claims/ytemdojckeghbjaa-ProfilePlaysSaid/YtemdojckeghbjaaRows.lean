/-
  No cell of these rows narrows 'for every input' (looked for: loops, veiled, ifaces, maps, wideKeys, modest, calm, conditions, laid).
  DERIVED. THE GIVEN ROWS OF THIS SEAT. 5 by the template 'for every input the law returns true; each argument reads behind the call as it read before'; 0 by the template 'total and deterministic' (their statements: YtemdojckeghbjaaTotals.lean).
  GIVEN WITH THE SEED: the statements are not yours to turn. If you find one false, say at which input.
  Laid BY PROGRAM, IN A SANDBOX (cutbox-rows.mjs): the forced cells as the released guide's own fill.sh prints them over the translation 0e87c9362feef9a0… (all of the seat's roots in one cut). By AI agents, Wed Nov 11 2026. No macro, syntax, notation, axiom, sorry.
-/
import Derived.Test.YtemdojckeghbjaaChecked
import GoSem.Claim
import GoSem.ClaimJoined
import GoSem.ClaimMapViews
import Derived.JoinedTies
import Derived.KernelRfl
namespace Go.Proofs.Ytemdojckeghbjaa
/- THE CELL 'sum', in the pinned program and in every row, IS THE sha256 OF THE DUMP (.gsa) THAT YtemdojckeghbjaaProg.lean LOADS. Nothing in Lean hashes anything: it is a label: what it is worth is what the hold of that sum in a sandbox is worth. -/
noncomputable def Try.pinned : Pinned := { name := "ytemdojckeghbjaa", sum := "0e87c9362feef9a020add80384a15df371df56b5e26a06d8728234e893614cc9", checked := Try.checked }
namespace Rows
def none {H : Type} : Left H := { results := [], args := [] }

/-- 'evenhandlaw15.ProfilePlays': WHATEVER THE INPUT: true; the input reads as it did. -/
def profilePlaysSpec : ChangeSpec := { name := "profilePlays", fn := fun _ => fun
  | [d1, d2] => { results := [.lit (.bool true)], args := [d1, d2] }
  | _ => none }
def profilePlaysRow : OpenClaim := { program := "ytemdojckeghbjaa", sum := "0e87c9362feef9a020add80384a15df371df56b5e26a06d8728234e893614cc9", func := "evenhand/evenhandlaw15.ProfilePlays", spec := "profilePlays", apart := false }
def ProfilePlaysSaid : Prop := profilePlaysRow.holds Try.pinned (OpenSpec.ofChange profilePlaysSpec)

/-- ITS FALSE NEIGHBOUR: 'it returns false'. Refute it at one input. -/
def profilePlaysWrong : ChangeSpec := { name := "profilePlays", fn := fun _ => fun
  | [d1, d2] => { results := [.lit (.bool false)], args := [d1, d2] }
  | _ => none }
def ProfilePlaysWrongFalsely : Prop := profilePlaysRow.holds Try.pinned (OpenSpec.ofChange profilePlaysWrong)

/-- 'evenhandlaw15.ProfileRuns': WHATEVER THE INPUT: true; the input reads as it did. -/
def profileRunsSpec : ChangeSpec := { name := "profileRuns", fn := fun _ => fun
  | [d1, d2] => { results := [.lit (.bool true)], args := [d1, d2] }
  | _ => none }
def profileRunsRow : OpenClaim := { program := "ytemdojckeghbjaa", sum := "0e87c9362feef9a020add80384a15df371df56b5e26a06d8728234e893614cc9", func := "evenhand/evenhandlaw15.ProfileRuns", spec := "profileRuns", apart := false }
def ProfileRunsSaid : Prop := profileRunsRow.holds Try.pinned (OpenSpec.ofChange profileRunsSpec)

/-- ITS FALSE NEIGHBOUR: 'it returns false'. Refute it at one input. -/
def profileRunsWrong : ChangeSpec := { name := "profileRuns", fn := fun _ => fun
  | [d1, d2] => { results := [.lit (.bool false)], args := [d1, d2] }
  | _ => none }
def ProfileRunsWrongFalsely : Prop := profileRunsRow.holds Try.pinned (OpenSpec.ofChange profileRunsWrong)

/-- 'evenhandlaw15.ProfileMost': WHATEVER THE INPUT: true; the input reads as it did. -/
def profileMostSpec : ChangeSpec := { name := "profileMost", fn := fun _ => fun
  | [d1, d2, d3] => { results := [.lit (.bool true)], args := [d1, d2, d3] }
  | _ => none }
def profileMostRow : OpenClaim := { program := "ytemdojckeghbjaa", sum := "0e87c9362feef9a020add80384a15df371df56b5e26a06d8728234e893614cc9", func := "evenhand/evenhandlaw15.ProfileMost", spec := "profileMost", apart := false }
def ProfileMostSaid : Prop := profileMostRow.holds Try.pinned (OpenSpec.ofChange profileMostSpec)

/-- ITS FALSE NEIGHBOUR: 'it returns false'. Refute it at one input. -/
def profileMostWrong : ChangeSpec := { name := "profileMost", fn := fun _ => fun
  | [d1, d2, d3] => { results := [.lit (.bool false)], args := [d1, d2, d3] }
  | _ => none }
def ProfileMostWrongFalsely : Prop := profileMostRow.holds Try.pinned (OpenSpec.ofChange profileMostWrong)

/-- 'evenhandlaw15.ProfileApart': WHATEVER THE INPUT: true; the input reads as it did. -/
def profileApartSpec : ChangeSpec := { name := "profileApart", fn := fun _ => fun
  | [d1, d2] => { results := [.lit (.bool true)], args := [d1, d2] }
  | _ => none }
def profileApartRow : OpenClaim := { program := "ytemdojckeghbjaa", sum := "0e87c9362feef9a020add80384a15df371df56b5e26a06d8728234e893614cc9", func := "evenhand/evenhandlaw15.ProfileApart", spec := "profileApart", apart := false }
def ProfileApartSaid : Prop := profileApartRow.holds Try.pinned (OpenSpec.ofChange profileApartSpec)

/-- ITS FALSE NEIGHBOUR: 'it returns false'. Refute it at one input. -/
def profileApartWrong : ChangeSpec := { name := "profileApart", fn := fun _ => fun
  | [d1, d2] => { results := [.lit (.bool false)], args := [d1, d2] }
  | _ => none }
def ProfileApartWrongFalsely : Prop := profileApartRow.holds Try.pinned (OpenSpec.ofChange profileApartWrong)

/-- 'evenhandlaw15.ProfileWrong': WHATEVER THE INPUT: true; the input reads as it did. -/
def profileWrongSpec : ChangeSpec := { name := "profileWrong", fn := fun _ => fun
  | [d1, d2] => { results := [.lit (.bool true)], args := [d1, d2] }
  | _ => none }
def profileWrongRow : OpenClaim := { program := "ytemdojckeghbjaa", sum := "0e87c9362feef9a020add80384a15df371df56b5e26a06d8728234e893614cc9", func := "evenhand/evenhandlaw15.ProfileWrong", spec := "profileWrong", apart := false }
def ProfileWrongSaid : Prop := profileWrongRow.holds Try.pinned (OpenSpec.ofChange profileWrongSpec)

/-- ITS FALSE NEIGHBOUR: 'it returns false'. Refute it at one input. -/
def profileWrongWrong : ChangeSpec := { name := "profileWrong", fn := fun _ => fun
  | [d1, d2] => { results := [.lit (.bool false)], args := [d1, d2] }
  | _ => none }
def ProfileWrongWrongFalsely : Prop := profileWrongRow.holds Try.pinned (OpenSpec.ofChange profileWrongWrong)

/- THE SECOND FORM. 'bulk': how many values and letters a reading holds, each counted each time it is reached (what is shared counts as often as it is met; a slice's spare places count too). A statement '..UptoSaid' is the law's where the arguments, and the package variables that the reading takes, are together of bulk at most 1048576: NARROWER than '..Said'. Prove '..Said' where nothing that the law and all that it calls make is longer than what came in: it says more and counts as full. Else prove '..UptoSaid'. A law counts once. -/
mutual
def uptoBulk {H : Type} : DataW H → Nat
  | .lit (.string bytes) => bytes.length + 1
  | .lit _ => 1
  | .nil => 1
  | .ptr d => uptoBulk d + 1
  | .slice elems spare => uptoBulkAll elems + uptoBulkAll spare + 1
  | .agg parts => uptoBulkAll parts + 1
  | .iface _ d => uptoBulk d + 1
  | .map entries => uptoBulkEntries entries + 1
  | .held _ => 1
def uptoBulkAll {H : Type} : List (DataW H) → Nat
  | [] => 0
  | d :: r => uptoBulk d + uptoBulkAll r
def uptoBulkEntries {H : Type} : List (Lit × DataW H) → Nat
  | [] => 0
  | x :: r => uptoBulkEntry x + uptoBulkEntries r
def uptoBulkEntry {H : Type} : Lit × DataW H → Nat
  | (.string bytes, d) => bytes.length + uptoBulk d + 1
  | (_, d) => uptoBulk d + 1
 end
def uptoSmall : (H : Type) → List (DataW H) → Bool := fun _ ds => decide (uptoBulkAll ds ≤ 1048576)
def OpenSpec.upto (s : _root_.Go.ChangeSpec) : _root_.Go.OpenSpec := { _root_.Go.OpenSpec.ofChange s with cond := some uptoSmall }

/-- 'evenhandlaw15.ProfilePlays', WHERE WHAT IT READS IS OF BULK AT MOST 1048576: true; the input reads as it did. -/
def profilePlaysUptoRow : OpenClaim := { program := "ytemdojckeghbjaa", sum := "0e87c9362feef9a020add80384a15df371df56b5e26a06d8728234e893614cc9", func := "evenhand/evenhandlaw15.ProfilePlays", spec := "profilePlays", apart := false, narrowed := true }
def ProfilePlaysUptoSaid : Prop := profilePlaysUptoRow.holds Try.pinned (OpenSpec.upto profilePlaysSpec)

/-- 'evenhandlaw15.ProfileRuns', WHERE WHAT IT READS IS OF BULK AT MOST 1048576: true; the input reads as it did. -/
def profileRunsUptoRow : OpenClaim := { program := "ytemdojckeghbjaa", sum := "0e87c9362feef9a020add80384a15df371df56b5e26a06d8728234e893614cc9", func := "evenhand/evenhandlaw15.ProfileRuns", spec := "profileRuns", apart := false, narrowed := true }
def ProfileRunsUptoSaid : Prop := profileRunsUptoRow.holds Try.pinned (OpenSpec.upto profileRunsSpec)

/-- 'evenhandlaw15.ProfileMost', WHERE WHAT IT READS IS OF BULK AT MOST 1048576: true; the input reads as it did. -/
def profileMostUptoRow : OpenClaim := { program := "ytemdojckeghbjaa", sum := "0e87c9362feef9a020add80384a15df371df56b5e26a06d8728234e893614cc9", func := "evenhand/evenhandlaw15.ProfileMost", spec := "profileMost", apart := false, narrowed := true }
def ProfileMostUptoSaid : Prop := profileMostUptoRow.holds Try.pinned (OpenSpec.upto profileMostSpec)

/-- 'evenhandlaw15.ProfileApart', WHERE WHAT IT READS IS OF BULK AT MOST 1048576: true; the input reads as it did. -/
def profileApartUptoRow : OpenClaim := { program := "ytemdojckeghbjaa", sum := "0e87c9362feef9a020add80384a15df371df56b5e26a06d8728234e893614cc9", func := "evenhand/evenhandlaw15.ProfileApart", spec := "profileApart", apart := false, narrowed := true }
def ProfileApartUptoSaid : Prop := profileApartUptoRow.holds Try.pinned (OpenSpec.upto profileApartSpec)

/-- 'evenhandlaw15.ProfileWrong', WHERE WHAT IT READS IS OF BULK AT MOST 1048576: true; the input reads as it did. -/
def profileWrongUptoRow : OpenClaim := { program := "ytemdojckeghbjaa", sum := "0e87c9362feef9a020add80384a15df371df56b5e26a06d8728234e893614cc9", func := "evenhand/evenhandlaw15.ProfileWrong", spec := "profileWrong", apart := false, narrowed := true }
def ProfileWrongUptoSaid : Prop := profileWrongUptoRow.holds Try.pinned (OpenSpec.upto profileWrongSpec)

end Rows
end Go.Proofs.Ytemdojckeghbjaa
