/-
  No cell of these rows narrows 'for every input' (looked for: loops, veiled, ifaces, maps, wideKeys, modest, calm, conditions, laid).
  DERIVED. THE GIVEN ROWS OF THIS SEAT. 7 by the template 'for every input the law returns true; each argument reads behind the call as it read before'; 0 by the template 'total and deterministic' (their statements: YtomnomljljkdfaaTotals.lean).
  GIVEN WITH THE SEED: the statements are not yours to turn. If you find one false, say at which input.
  Laid BY PROGRAM, IN A SANDBOX (cutbox-rows.mjs): the forced cells as the released guide's own fill.sh prints them over the translation d379cb052dd18938… (all of the seat's roots in one cut). By AI agents, Wed Nov 11 2026. No macro, syntax, notation, axiom, sorry.
-/
import Derived.Test.YtomnomljljkdfaaChecked
import GoSem.Claim
import GoSem.ClaimJoined
import GoSem.ClaimMapViews
import Derived.JoinedTies
import Derived.KernelRfl
namespace Go.Proofs.Ytomnomljljkdfaa
/- THE CELL 'sum', in the pinned program and in every row, IS THE sha256 OF THE DUMP (.gsa) THAT YtomnomljljkdfaaProg.lean LOADS. Nothing in Lean hashes anything: it is a label: what it is worth is what the hold of that sum in a sandbox is worth. -/
noncomputable def Try.pinned : Pinned := { name := "ytomnomljljkdfaa", sum := "d379cb052dd1893854914e3193bcc566b31c3c86ea43f1f6ac88b1fbb171e40c", checked := Try.checked }
namespace Rows
def none {H : Type} : Left H := { results := [], args := [] }

/-- 'evenhandlaw02.LexTells': WHATEVER THE INPUT: true; the input reads as it did. -/
def lexTellsSpec : ChangeSpec := { name := "lexTells", fn := fun _ => fun
  | [d] => { results := [.lit (.bool true)], args := [d] }
  | _ => none }
def lexTellsRow : OpenClaim := { program := "ytomnomljljkdfaa", sum := "d379cb052dd1893854914e3193bcc566b31c3c86ea43f1f6ac88b1fbb171e40c", func := "evenhand/evenhandlaw02.LexTells", spec := "lexTells", inPlace := ["internal/bytealg.IndexByteString"], unfollowed := true, recurses := true, apart := false }
def LexTellsSaid : Prop := lexTellsRow.holds Try.pinned (OpenSpec.ofChange lexTellsSpec)

/-- ITS FALSE NEIGHBOUR: 'it returns false'. Refute it at one input. -/
def lexTellsWrong : ChangeSpec := { name := "lexTells", fn := fun _ => fun
  | [d] => { results := [.lit (.bool false)], args := [d] }
  | _ => none }
def LexTellsWrongFalsely : Prop := lexTellsRow.holds Try.pinned (OpenSpec.ofChange lexTellsWrong)

/-- 'evenhandlaw02.LexAgain': WHATEVER THE INPUT: true; the input reads as it did. -/
def lexAgainSpec : ChangeSpec := { name := "lexAgain", fn := fun _ => fun
  | [d1, d2] => { results := [.lit (.bool true)], args := [d1, d2] }
  | _ => none }
def lexAgainRow : OpenClaim := { program := "ytomnomljljkdfaa", sum := "d379cb052dd1893854914e3193bcc566b31c3c86ea43f1f6ac88b1fbb171e40c", func := "evenhand/evenhandlaw02.LexAgain", spec := "lexAgain", inPlace := ["internal/bytealg.IndexByteString"], unfollowed := true, recurses := true, apart := false }
def LexAgainSaid : Prop := lexAgainRow.holds Try.pinned (OpenSpec.ofChange lexAgainSpec)

/-- ITS FALSE NEIGHBOUR: 'it returns false'. Refute it at one input. -/
def lexAgainWrong : ChangeSpec := { name := "lexAgain", fn := fun _ => fun
  | [d1, d2] => { results := [.lit (.bool false)], args := [d1, d2] }
  | _ => none }
def LexAgainWrongFalsely : Prop := lexAgainRow.holds Try.pinned (OpenSpec.ofChange lexAgainWrong)

/-- 'evenhandlaw02.LexPlaces': WHATEVER THE INPUT: true; the input reads as it did. -/
def lexPlacesSpec : ChangeSpec := { name := "lexPlaces", fn := fun _ => fun
  | [d] => { results := [.lit (.bool true)], args := [d] }
  | _ => none }
def lexPlacesRow : OpenClaim := { program := "ytomnomljljkdfaa", sum := "d379cb052dd1893854914e3193bcc566b31c3c86ea43f1f6ac88b1fbb171e40c", func := "evenhand/evenhandlaw02.LexPlaces", spec := "lexPlaces", inPlace := ["internal/bytealg.IndexByteString"], unfollowed := true, recurses := true, apart := false }
def LexPlacesSaid : Prop := lexPlacesRow.holds Try.pinned (OpenSpec.ofChange lexPlacesSpec)

/-- ITS FALSE NEIGHBOUR: 'it returns false'. Refute it at one input. -/
def lexPlacesWrong : ChangeSpec := { name := "lexPlaces", fn := fun _ => fun
  | [d] => { results := [.lit (.bool false)], args := [d] }
  | _ => none }
def LexPlacesWrongFalsely : Prop := lexPlacesRow.holds Try.pinned (OpenSpec.ofChange lexPlacesWrong)

/-- 'evenhandlaw02.LexBytes': WHATEVER THE INPUT: true; the input reads as it did. -/
def lexBytesSpec : ChangeSpec := { name := "lexBytes", fn := fun _ => fun
  | [d] => { results := [.lit (.bool true)], args := [d] }
  | _ => none }
def lexBytesRow : OpenClaim := { program := "ytomnomljljkdfaa", sum := "d379cb052dd1893854914e3193bcc566b31c3c86ea43f1f6ac88b1fbb171e40c", func := "evenhand/evenhandlaw02.LexBytes", spec := "lexBytes", inPlace := ["internal/bytealg.IndexByteString"], unfollowed := true, recurses := true, apart := false }
def LexBytesSaid : Prop := lexBytesRow.holds Try.pinned (OpenSpec.ofChange lexBytesSpec)

/-- ITS FALSE NEIGHBOUR: 'it returns false'. Refute it at one input. -/
def lexBytesWrong : ChangeSpec := { name := "lexBytes", fn := fun _ => fun
  | [d] => { results := [.lit (.bool false)], args := [d] }
  | _ => none }
def LexBytesWrongFalsely : Prop := lexBytesRow.holds Try.pinned (OpenSpec.ofChange lexBytesWrong)

/-- 'evenhandlaw02.LexComments': WHATEVER THE INPUT: true; the input reads as it did. -/
def lexCommentsSpec : ChangeSpec := { name := "lexComments", fn := fun _ => fun
  | [d1, d2] => { results := [.lit (.bool true)], args := [d1, d2] }
  | _ => none }
def lexCommentsRow : OpenClaim := { program := "ytomnomljljkdfaa", sum := "d379cb052dd1893854914e3193bcc566b31c3c86ea43f1f6ac88b1fbb171e40c", func := "evenhand/evenhandlaw02.LexComments", spec := "lexComments", inPlace := ["internal/bytealg.IndexByteString"], unfollowed := true, recurses := true, apart := false }
def LexCommentsSaid : Prop := lexCommentsRow.holds Try.pinned (OpenSpec.ofChange lexCommentsSpec)

/-- ITS FALSE NEIGHBOUR: 'it returns false'. Refute it at one input. -/
def lexCommentsWrong : ChangeSpec := { name := "lexComments", fn := fun _ => fun
  | [d1, d2] => { results := [.lit (.bool false)], args := [d1, d2] }
  | _ => none }
def LexCommentsWrongFalsely : Prop := lexCommentsRow.holds Try.pinned (OpenSpec.ofChange lexCommentsWrong)

/-- 'evenhandlaw02.LexWords': WHATEVER THE INPUT: true; the input reads as it did. -/
def lexWordsSpec : ChangeSpec := { name := "lexWords", fn := fun _ => fun
  | [d1, d2] => { results := [.lit (.bool true)], args := [d1, d2] }
  | _ => none }
def lexWordsRow : OpenClaim := { program := "ytomnomljljkdfaa", sum := "d379cb052dd1893854914e3193bcc566b31c3c86ea43f1f6ac88b1fbb171e40c", func := "evenhand/evenhandlaw02.LexWords", spec := "lexWords", inPlace := ["internal/bytealg.IndexByteString"], unfollowed := true, recurses := true, apart := false }
def LexWordsSaid : Prop := lexWordsRow.holds Try.pinned (OpenSpec.ofChange lexWordsSpec)

/-- ITS FALSE NEIGHBOUR: 'it returns false'. Refute it at one input. -/
def lexWordsWrong : ChangeSpec := { name := "lexWords", fn := fun _ => fun
  | [d1, d2] => { results := [.lit (.bool false)], args := [d1, d2] }
  | _ => none }
def LexWordsWrongFalsely : Prop := lexWordsRow.holds Try.pinned (OpenSpec.ofChange lexWordsWrong)

/-- 'evenhandlaw02.LexCuts': WHATEVER THE INPUT: true; the input reads as it did. -/
def lexCutsSpec : ChangeSpec := { name := "lexCuts", fn := fun _ => fun
  | [d1, d2] => { results := [.lit (.bool true)], args := [d1, d2] }
  | _ => none }
def lexCutsRow : OpenClaim := { program := "ytomnomljljkdfaa", sum := "d379cb052dd1893854914e3193bcc566b31c3c86ea43f1f6ac88b1fbb171e40c", func := "evenhand/evenhandlaw02.LexCuts", spec := "lexCuts", inPlace := ["internal/bytealg.IndexByteString"], unfollowed := true, recurses := true, apart := false }
def LexCutsSaid : Prop := lexCutsRow.holds Try.pinned (OpenSpec.ofChange lexCutsSpec)

/-- ITS FALSE NEIGHBOUR: 'it returns false'. Refute it at one input. -/
def lexCutsWrong : ChangeSpec := { name := "lexCuts", fn := fun _ => fun
  | [d1, d2] => { results := [.lit (.bool false)], args := [d1, d2] }
  | _ => none }
def LexCutsWrongFalsely : Prop := lexCutsRow.holds Try.pinned (OpenSpec.ofChange lexCutsWrong)

/- THE SECOND FORM. 'bulk': how many values and letters a reading holds, each counted each time it is reached (what is shared counts as often as it is met; a slice's spare places count too). A statement '..UptoSaid' is the law's where the arguments, and the package variables that the reading takes, are together of bulk at most 1048576: NARROWER than '..Said'. Prove '..Said' where nothing that the law and all that it calls make is longer than what came in: it says more and counts as full. Else prove '..UptoSaid'. A law counts once. -/
mutual
def uptoBulk {H : Type} : DataW H → Nat
  | .lit (.string bytes) => bytes.length + 1
  | .lit _ => 1
  | .nil => 1
  | .ptr d => uptoBulk d + 1
  | .slice elems spare => uptoBulkAll elems + uptoBulkAll spare + 1
  | .agg parts => uptoBulkAll parts + 1
  | .iface _ d => uptoBulk d + 1
  | .map entries => uptoBulkEntries entries + 1
  | .held _ => 1
def uptoBulkAll {H : Type} : List (DataW H) → Nat
  | [] => 0
  | d :: r => uptoBulk d + uptoBulkAll r
def uptoBulkEntries {H : Type} : List (Lit × DataW H) → Nat
  | [] => 0
  | x :: r => uptoBulkEntry x + uptoBulkEntries r
def uptoBulkEntry {H : Type} : Lit × DataW H → Nat
  | (.string bytes, d) => bytes.length + uptoBulk d + 1
  | (_, d) => uptoBulk d + 1
 end
def uptoSmall : (H : Type) → List (DataW H) → Bool := fun _ ds => decide (uptoBulkAll ds ≤ 1048576)
def OpenSpec.upto (s : _root_.Go.ChangeSpec) : _root_.Go.OpenSpec := { _root_.Go.OpenSpec.ofChange s with cond := some uptoSmall }

/-- 'evenhandlaw02.LexTells', WHERE WHAT IT READS IS OF BULK AT MOST 1048576: true; the input reads as it did. -/
def lexTellsUptoRow : OpenClaim := { program := "ytomnomljljkdfaa", sum := "d379cb052dd1893854914e3193bcc566b31c3c86ea43f1f6ac88b1fbb171e40c", func := "evenhand/evenhandlaw02.LexTells", spec := "lexTells", inPlace := ["internal/bytealg.IndexByteString"], unfollowed := true, recurses := true, apart := false, narrowed := true }
def LexTellsUptoSaid : Prop := lexTellsUptoRow.holds Try.pinned (OpenSpec.upto lexTellsSpec)

/-- 'evenhandlaw02.LexAgain', WHERE WHAT IT READS IS OF BULK AT MOST 1048576: true; the input reads as it did. -/
def lexAgainUptoRow : OpenClaim := { program := "ytomnomljljkdfaa", sum := "d379cb052dd1893854914e3193bcc566b31c3c86ea43f1f6ac88b1fbb171e40c", func := "evenhand/evenhandlaw02.LexAgain", spec := "lexAgain", inPlace := ["internal/bytealg.IndexByteString"], unfollowed := true, recurses := true, apart := false, narrowed := true }
def LexAgainUptoSaid : Prop := lexAgainUptoRow.holds Try.pinned (OpenSpec.upto lexAgainSpec)

/-- 'evenhandlaw02.LexPlaces', WHERE WHAT IT READS IS OF BULK AT MOST 1048576: true; the input reads as it did. -/
def lexPlacesUptoRow : OpenClaim := { program := "ytomnomljljkdfaa", sum := "d379cb052dd1893854914e3193bcc566b31c3c86ea43f1f6ac88b1fbb171e40c", func := "evenhand/evenhandlaw02.LexPlaces", spec := "lexPlaces", inPlace := ["internal/bytealg.IndexByteString"], unfollowed := true, recurses := true, apart := false, narrowed := true }
def LexPlacesUptoSaid : Prop := lexPlacesUptoRow.holds Try.pinned (OpenSpec.upto lexPlacesSpec)

/-- 'evenhandlaw02.LexBytes', WHERE WHAT IT READS IS OF BULK AT MOST 1048576: true; the input reads as it did. -/
def lexBytesUptoRow : OpenClaim := { program := "ytomnomljljkdfaa", sum := "d379cb052dd1893854914e3193bcc566b31c3c86ea43f1f6ac88b1fbb171e40c", func := "evenhand/evenhandlaw02.LexBytes", spec := "lexBytes", inPlace := ["internal/bytealg.IndexByteString"], unfollowed := true, recurses := true, apart := false, narrowed := true }
def LexBytesUptoSaid : Prop := lexBytesUptoRow.holds Try.pinned (OpenSpec.upto lexBytesSpec)

/-- 'evenhandlaw02.LexComments', WHERE WHAT IT READS IS OF BULK AT MOST 1048576: true; the input reads as it did. -/
def lexCommentsUptoRow : OpenClaim := { program := "ytomnomljljkdfaa", sum := "d379cb052dd1893854914e3193bcc566b31c3c86ea43f1f6ac88b1fbb171e40c", func := "evenhand/evenhandlaw02.LexComments", spec := "lexComments", inPlace := ["internal/bytealg.IndexByteString"], unfollowed := true, recurses := true, apart := false, narrowed := true }
def LexCommentsUptoSaid : Prop := lexCommentsUptoRow.holds Try.pinned (OpenSpec.upto lexCommentsSpec)

/-- 'evenhandlaw02.LexWords', WHERE WHAT IT READS IS OF BULK AT MOST 1048576: true; the input reads as it did. -/
def lexWordsUptoRow : OpenClaim := { program := "ytomnomljljkdfaa", sum := "d379cb052dd1893854914e3193bcc566b31c3c86ea43f1f6ac88b1fbb171e40c", func := "evenhand/evenhandlaw02.LexWords", spec := "lexWords", inPlace := ["internal/bytealg.IndexByteString"], unfollowed := true, recurses := true, apart := false, narrowed := true }
def LexWordsUptoSaid : Prop := lexWordsUptoRow.holds Try.pinned (OpenSpec.upto lexWordsSpec)

/-- 'evenhandlaw02.LexCuts', WHERE WHAT IT READS IS OF BULK AT MOST 1048576: true; the input reads as it did. -/
def lexCutsUptoRow : OpenClaim := { program := "ytomnomljljkdfaa", sum := "d379cb052dd1893854914e3193bcc566b31c3c86ea43f1f6ac88b1fbb171e40c", func := "evenhand/evenhandlaw02.LexCuts", spec := "lexCuts", inPlace := ["internal/bytealg.IndexByteString"], unfollowed := true, recurses := true, apart := false, narrowed := true }
def LexCutsUptoSaid : Prop := lexCutsUptoRow.holds Try.pinned (OpenSpec.upto lexCutsSpec)

end Rows
end Go.Proofs.Ytomnomljljkdfaa
