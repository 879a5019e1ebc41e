/-
  NARROWER THAN 'FOR EVERY INPUT', by the rows' own cells (each row's printed sentence says how): LatticeFormed: laid · LatticeMakes: laid · LatticeLeast: laid · LatticeLaws: laid · LatticeNames: laid · LatticeAsks: laid.
  DERIVED. THE GIVEN ROWS OF THIS SEAT. 6 by the template 'for every input the law returns true; each argument reads behind the call as it read before'; 0 by the template 'total and deterministic' (their statements: YtokogcfcaehifaaDoorTotals.lean).
  GIVEN WITH THE SEED: the statements are not yours to turn. If you find one false, say at which input.
  Laid BY PROGRAM, IN A SANDBOX (cutbox-rows.mjs): the forced cells as the released guide's own fill.sh prints them over the translation c1b986bb89742379… (all of the seat's roots in one cut). By AI agents, Wed Nov 11 2026. No macro, syntax, notation, axiom, sorry.
-/
import Derived.Test.YtokogcfcaehifaaDoorChecked
import GoSem.PinnedTables
import GoSem.Claim
import GoSem.ClaimJoined
import GoSem.ClaimMapViews
import Derived.JoinedTies
import Derived.KernelRfl
namespace Go.Proofs.YtokogcfcaehifaaDoor
/- THE CELL 'sum', in the pinned program and in every row, IS THE sha256 OF THE DUMP (.gsa) THAT YtokogcfcaehifaaDoorProg.lean LOADS. Nothing in Lean hashes anything: it is a label: what it is worth is what the hold of that sum in a sandbox is worth. -/
noncomputable def Tryd.pinned : Pinned := { name := "ytokogcfcaehifaadoor", sum := "c1b986bb8974237954d9aafc7dd58a49fae778a62e12904fb9d1f71b793d50db", checked := Tryd.checked }
namespace Rows
def none {H : Type} : Left H := { results := [], args := [] }

/- WHAT THE LISTED PACKAGE-LEVEL VARIABLES READ AS WHEN THE CALL BEGINS. Each datum BY PROGRAM (the guide's laid-datum.mjs) off the statement by which the dump's own 'gosem.cut.vars' lays the variable. In a bare row this is a premise. The card (YtokogcfcaehifaaDoorCards.lean) ties it to the program's text. -/
def laid_unicode_utf8_acceptRanges {H : Type} : DataW H := .agg [.agg [.lit (.int .u8 128), .lit (.int .u8 191)], .agg [.lit (.int .u8 160), .lit (.int .u8 191)], .agg [.lit (.int .u8 128), .lit (.int .u8 159)], .agg [.lit (.int .u8 144), .lit (.int .u8 191)], .agg [.lit (.int .u8 128), .lit (.int .u8 143)], .agg [.lit (.int .u8 0), .lit (.int .u8 0)], .agg [.lit (.int .u8 0), .lit (.int .u8 0)], .agg [.lit (.int .u8 0), .lit (.int .u8 0)], .agg [.lit (.int .u8 0), .lit (.int .u8 0)], .agg [.lit (.int .u8 0), .lit (.int .u8 0)], .agg [.lit (.int .u8 0), .lit (.int .u8 0)], .agg [.lit (.int .u8 0), .lit (.int .u8 0)], .agg [.lit (.int .u8 0), .lit (.int .u8 0)], .agg [.lit (.int .u8 0), .lit (.int .u8 0)], .agg [.lit (.int .u8 0), .lit (.int .u8 0)], .agg [.lit (.int .u8 0), .lit (.int .u8 0)]]
/-- One of Go's own tables, pinned by name: the form's constant. -/
def laid_unicode_utf8_first : DataW Unit := Go.Pinned.utf8First

/-- 'palisadelaw01.LatticeFormed': WHATEVER THE INPUT: true; the input reads as it did. -/
def latticeFormedSpec : ChangeSpec := { name := "latticeFormed", fn := fun _ => fun
  | [d1, d2] => { results := [.lit (.bool true)], args := [d1, d2] }
  | _ => none }
def latticeFormedRow : OpenClaim := { program := "ytokogcfcaehifaadoor", sum := "c1b986bb8974237954d9aafc7dd58a49fae778a62e12904fb9d1f71b793d50db", func := "palisade/palisadelaw01.LatticeFormed", spec := "latticeFormed", unfollowed := true, recurses := true, named := ["unicode/utf8.first", "unicode/utf8.acceptRanges"], apart := false, laid := [("unicode/utf8.acceptRanges", laid_unicode_utf8_acceptRanges), ("unicode/utf8.first", laid_unicode_utf8_first)] }
def LatticeFormedSaid : Prop := latticeFormedRow.holds Tryd.pinned (OpenSpec.ofChange latticeFormedSpec)

/-- ITS FALSE NEIGHBOUR: 'it returns false'. Refute it at one input. -/
def latticeFormedWrong : ChangeSpec := { name := "latticeFormed", fn := fun _ => fun
  | [d1, d2] => { results := [.lit (.bool false)], args := [d1, d2] }
  | _ => none }
def LatticeFormedWrongFalsely : Prop := latticeFormedRow.holds Tryd.pinned (OpenSpec.ofChange latticeFormedWrong)

/-- 'palisadelaw01.LatticeMakes': WHATEVER THE INPUT: true; the input reads as it did. -/
def latticeMakesSpec : ChangeSpec := { name := "latticeMakes", fn := fun _ => fun
  | [d1, d2] => { results := [.lit (.bool true)], args := [d1, d2] }
  | _ => none }
def latticeMakesRow : OpenClaim := { program := "ytokogcfcaehifaadoor", sum := "c1b986bb8974237954d9aafc7dd58a49fae778a62e12904fb9d1f71b793d50db", func := "palisade/palisadelaw01.LatticeMakes", spec := "latticeMakes", unfollowed := true, recurses := true, named := ["unicode/utf8.first", "unicode/utf8.acceptRanges"], apart := false, laid := [("unicode/utf8.acceptRanges", laid_unicode_utf8_acceptRanges), ("unicode/utf8.first", laid_unicode_utf8_first)] }
def LatticeMakesSaid : Prop := latticeMakesRow.holds Tryd.pinned (OpenSpec.ofChange latticeMakesSpec)

/-- ITS FALSE NEIGHBOUR: 'it returns false'. Refute it at one input. -/
def latticeMakesWrong : ChangeSpec := { name := "latticeMakes", fn := fun _ => fun
  | [d1, d2] => { results := [.lit (.bool false)], args := [d1, d2] }
  | _ => none }
def LatticeMakesWrongFalsely : Prop := latticeMakesRow.holds Tryd.pinned (OpenSpec.ofChange latticeMakesWrong)

/-- 'palisadelaw01.LatticeLeast': WHATEVER THE INPUT: true; the input reads as it did. -/
def latticeLeastSpec : ChangeSpec := { name := "latticeLeast", fn := fun _ => fun
  | [d1, d2] => { results := [.lit (.bool true)], args := [d1, d2] }
  | _ => none }
def latticeLeastRow : OpenClaim := { program := "ytokogcfcaehifaadoor", sum := "c1b986bb8974237954d9aafc7dd58a49fae778a62e12904fb9d1f71b793d50db", func := "palisade/palisadelaw01.LatticeLeast", spec := "latticeLeast", unfollowed := true, recurses := true, named := ["unicode/utf8.first", "unicode/utf8.acceptRanges"], apart := false, laid := [("unicode/utf8.acceptRanges", laid_unicode_utf8_acceptRanges), ("unicode/utf8.first", laid_unicode_utf8_first)] }
def LatticeLeastSaid : Prop := latticeLeastRow.holds Tryd.pinned (OpenSpec.ofChange latticeLeastSpec)

/-- ITS FALSE NEIGHBOUR: 'it returns false'. Refute it at one input. -/
def latticeLeastWrong : ChangeSpec := { name := "latticeLeast", fn := fun _ => fun
  | [d1, d2] => { results := [.lit (.bool false)], args := [d1, d2] }
  | _ => none }
def LatticeLeastWrongFalsely : Prop := latticeLeastRow.holds Tryd.pinned (OpenSpec.ofChange latticeLeastWrong)

/-- 'palisadelaw01.LatticeLaws': WHATEVER THE INPUT: true; the input reads as it did. -/
def latticeLawsSpec : ChangeSpec := { name := "latticeLaws", fn := fun _ => fun
  | [d] => { results := [.lit (.bool true)], args := [d] }
  | _ => none }
def latticeLawsRow : OpenClaim := { program := "ytokogcfcaehifaadoor", sum := "c1b986bb8974237954d9aafc7dd58a49fae778a62e12904fb9d1f71b793d50db", func := "palisade/palisadelaw01.LatticeLaws", spec := "latticeLaws", unfollowed := true, recurses := true, named := ["unicode/utf8.first", "unicode/utf8.acceptRanges"], apart := false, laid := [("unicode/utf8.acceptRanges", laid_unicode_utf8_acceptRanges), ("unicode/utf8.first", laid_unicode_utf8_first)] }
def LatticeLawsSaid : Prop := latticeLawsRow.holds Tryd.pinned (OpenSpec.ofChange latticeLawsSpec)

/-- ITS FALSE NEIGHBOUR: 'it returns false'. Refute it at one input. -/
def latticeLawsWrong : ChangeSpec := { name := "latticeLaws", fn := fun _ => fun
  | [d] => { results := [.lit (.bool false)], args := [d] }
  | _ => none }
def LatticeLawsWrongFalsely : Prop := latticeLawsRow.holds Tryd.pinned (OpenSpec.ofChange latticeLawsWrong)

/-- 'palisadelaw01.LatticeNames': WHATEVER THE INPUT: true; the input reads as it did. -/
def latticeNamesSpec : ChangeSpec := { name := "latticeNames", fn := fun _ => fun
  | [d1, d2, d3] => { results := [.lit (.bool true)], args := [d1, d2, d3] }
  | _ => none }
def latticeNamesRow : OpenClaim := { program := "ytokogcfcaehifaadoor", sum := "c1b986bb8974237954d9aafc7dd58a49fae778a62e12904fb9d1f71b793d50db", func := "palisade/palisadelaw01.LatticeNames", spec := "latticeNames", unfollowed := true, recurses := true, named := ["unicode/utf8.first", "unicode/utf8.acceptRanges"], apart := false, laid := [("unicode/utf8.acceptRanges", laid_unicode_utf8_acceptRanges), ("unicode/utf8.first", laid_unicode_utf8_first)] }
def LatticeNamesSaid : Prop := latticeNamesRow.holds Tryd.pinned (OpenSpec.ofChange latticeNamesSpec)

/-- ITS FALSE NEIGHBOUR: 'it returns false'. Refute it at one input. -/
def latticeNamesWrong : ChangeSpec := { name := "latticeNames", fn := fun _ => fun
  | [d1, d2, d3] => { results := [.lit (.bool false)], args := [d1, d2, d3] }
  | _ => none }
def LatticeNamesWrongFalsely : Prop := latticeNamesRow.holds Tryd.pinned (OpenSpec.ofChange latticeNamesWrong)

/-- 'palisadelaw01.LatticeAsks': WHATEVER THE INPUT: true; the input reads as it did. -/
def latticeAsksSpec : ChangeSpec := { name := "latticeAsks", fn := fun _ => fun
  | [d1, d2, d3] => { results := [.lit (.bool true)], args := [d1, d2, d3] }
  | _ => none }
def latticeAsksRow : OpenClaim := { program := "ytokogcfcaehifaadoor", sum := "c1b986bb8974237954d9aafc7dd58a49fae778a62e12904fb9d1f71b793d50db", func := "palisade/palisadelaw01.LatticeAsks", spec := "latticeAsks", unfollowed := true, recurses := true, named := ["unicode/utf8.first", "unicode/utf8.acceptRanges"], apart := false, laid := [("unicode/utf8.acceptRanges", laid_unicode_utf8_acceptRanges), ("unicode/utf8.first", laid_unicode_utf8_first)] }
def LatticeAsksSaid : Prop := latticeAsksRow.holds Tryd.pinned (OpenSpec.ofChange latticeAsksSpec)

/-- ITS FALSE NEIGHBOUR: 'it returns false'. Refute it at one input. -/
def latticeAsksWrong : ChangeSpec := { name := "latticeAsks", fn := fun _ => fun
  | [d1, d2, d3] => { results := [.lit (.bool false)], args := [d1, d2, d3] }
  | _ => none }
def LatticeAsksWrongFalsely : Prop := latticeAsksRow.holds Tryd.pinned (OpenSpec.ofChange latticeAsksWrong)

/- THE SECOND FORM. 'bulk': how many values and letters a reading holds, each counted each time it is reached (what is shared counts as often as it is met; a slice's spare places count too). A statement '..UptoSaid' is the law's where the arguments, and the package variables that the reading takes, are together of bulk at most 1048576: NARROWER than '..Said'. Prove '..Said' where nothing that the law and all that it calls make is longer than what came in: it says more and counts as full. Else prove '..UptoSaid'. A law counts once. -/
mutual
def uptoBulk {H : Type} : DataW H → Nat
  | .lit (.string bytes) => bytes.length + 1
  | .lit _ => 1
  | .nil => 1
  | .ptr d => uptoBulk d + 1
  | .slice elems spare => uptoBulkAll elems + uptoBulkAll spare + 1
  | .agg parts => uptoBulkAll parts + 1
  | .iface _ d => uptoBulk d + 1
  | .map entries => uptoBulkEntries entries + 1
  | .held _ => 1
def uptoBulkAll {H : Type} : List (DataW H) → Nat
  | [] => 0
  | d :: r => uptoBulk d + uptoBulkAll r
def uptoBulkEntries {H : Type} : List (Lit × DataW H) → Nat
  | [] => 0
  | x :: r => uptoBulkEntry x + uptoBulkEntries r
def uptoBulkEntry {H : Type} : Lit × DataW H → Nat
  | (.string bytes, d) => bytes.length + uptoBulk d + 1
  | (_, d) => uptoBulk d + 1
 end
def uptoSmall : (H : Type) → List (DataW H) → Bool := fun _ ds => decide (uptoBulkAll ds ≤ 1048576)
def OpenSpec.upto (s : _root_.Go.ChangeSpec) : _root_.Go.OpenSpec := { _root_.Go.OpenSpec.ofChange s with cond := some uptoSmall }

/-- 'palisadelaw01.LatticeFormed', WHERE WHAT IT READS IS OF BULK AT MOST 1048576: true; the input reads as it did. -/
def latticeFormedUptoRow : OpenClaim := { program := "ytokogcfcaehifaadoor", sum := "c1b986bb8974237954d9aafc7dd58a49fae778a62e12904fb9d1f71b793d50db", func := "palisade/palisadelaw01.LatticeFormed", spec := "latticeFormed", unfollowed := true, recurses := true, named := ["unicode/utf8.first", "unicode/utf8.acceptRanges"], apart := false, laid := [("unicode/utf8.acceptRanges", laid_unicode_utf8_acceptRanges), ("unicode/utf8.first", laid_unicode_utf8_first)], narrowed := true }
def LatticeFormedUptoSaid : Prop := latticeFormedUptoRow.holds Tryd.pinned (OpenSpec.upto latticeFormedSpec)

/-- 'palisadelaw01.LatticeMakes', WHERE WHAT IT READS IS OF BULK AT MOST 1048576: true; the input reads as it did. -/
def latticeMakesUptoRow : OpenClaim := { program := "ytokogcfcaehifaadoor", sum := "c1b986bb8974237954d9aafc7dd58a49fae778a62e12904fb9d1f71b793d50db", func := "palisade/palisadelaw01.LatticeMakes", spec := "latticeMakes", unfollowed := true, recurses := true, named := ["unicode/utf8.first", "unicode/utf8.acceptRanges"], apart := false, laid := [("unicode/utf8.acceptRanges", laid_unicode_utf8_acceptRanges), ("unicode/utf8.first", laid_unicode_utf8_first)], narrowed := true }
def LatticeMakesUptoSaid : Prop := latticeMakesUptoRow.holds Tryd.pinned (OpenSpec.upto latticeMakesSpec)

/-- 'palisadelaw01.LatticeLeast', WHERE WHAT IT READS IS OF BULK AT MOST 1048576: true; the input reads as it did. -/
def latticeLeastUptoRow : OpenClaim := { program := "ytokogcfcaehifaadoor", sum := "c1b986bb8974237954d9aafc7dd58a49fae778a62e12904fb9d1f71b793d50db", func := "palisade/palisadelaw01.LatticeLeast", spec := "latticeLeast", unfollowed := true, recurses := true, named := ["unicode/utf8.first", "unicode/utf8.acceptRanges"], apart := false, laid := [("unicode/utf8.acceptRanges", laid_unicode_utf8_acceptRanges), ("unicode/utf8.first", laid_unicode_utf8_first)], narrowed := true }
def LatticeLeastUptoSaid : Prop := latticeLeastUptoRow.holds Tryd.pinned (OpenSpec.upto latticeLeastSpec)

/-- 'palisadelaw01.LatticeLaws', WHERE WHAT IT READS IS OF BULK AT MOST 1048576: true; the input reads as it did. -/
def latticeLawsUptoRow : OpenClaim := { program := "ytokogcfcaehifaadoor", sum := "c1b986bb8974237954d9aafc7dd58a49fae778a62e12904fb9d1f71b793d50db", func := "palisade/palisadelaw01.LatticeLaws", spec := "latticeLaws", unfollowed := true, recurses := true, named := ["unicode/utf8.first", "unicode/utf8.acceptRanges"], apart := false, laid := [("unicode/utf8.acceptRanges", laid_unicode_utf8_acceptRanges), ("unicode/utf8.first", laid_unicode_utf8_first)], narrowed := true }
def LatticeLawsUptoSaid : Prop := latticeLawsUptoRow.holds Tryd.pinned (OpenSpec.upto latticeLawsSpec)

/-- 'palisadelaw01.LatticeNames', WHERE WHAT IT READS IS OF BULK AT MOST 1048576: true; the input reads as it did. -/
def latticeNamesUptoRow : OpenClaim := { program := "ytokogcfcaehifaadoor", sum := "c1b986bb8974237954d9aafc7dd58a49fae778a62e12904fb9d1f71b793d50db", func := "palisade/palisadelaw01.LatticeNames", spec := "latticeNames", unfollowed := true, recurses := true, named := ["unicode/utf8.first", "unicode/utf8.acceptRanges"], apart := false, laid := [("unicode/utf8.acceptRanges", laid_unicode_utf8_acceptRanges), ("unicode/utf8.first", laid_unicode_utf8_first)], narrowed := true }
def LatticeNamesUptoSaid : Prop := latticeNamesUptoRow.holds Tryd.pinned (OpenSpec.upto latticeNamesSpec)

/-- 'palisadelaw01.LatticeAsks', WHERE WHAT IT READS IS OF BULK AT MOST 1048576: true; the input reads as it did. -/
def latticeAsksUptoRow : OpenClaim := { program := "ytokogcfcaehifaadoor", sum := "c1b986bb8974237954d9aafc7dd58a49fae778a62e12904fb9d1f71b793d50db", func := "palisade/palisadelaw01.LatticeAsks", spec := "latticeAsks", unfollowed := true, recurses := true, named := ["unicode/utf8.first", "unicode/utf8.acceptRanges"], apart := false, laid := [("unicode/utf8.acceptRanges", laid_unicode_utf8_acceptRanges), ("unicode/utf8.first", laid_unicode_utf8_first)], narrowed := true }
def LatticeAsksUptoSaid : Prop := latticeAsksUptoRow.holds Tryd.pinned (OpenSpec.upto latticeAsksSpec)

end Rows
end Go.Proofs.YtokogcfcaehifaaDoor
