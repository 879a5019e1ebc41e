/- What the rows of this claim share: the settled world in which the listed variables are laid, and what the walks ask of it. -/
import Derived.Test.YtfammikhejjjcaaDoorRows
import Derived.Test.YtfammikhejjjcaaDoorCards
import Derived.Test.YtfammikhejjjcaaDoorTie
import Derived.Test.YtfammikhejjjcaaDoorOpen
import Derived.Test.YtfammikhejjjcaaDoorLex1
import Derived.Lay
import Derived.Lib.AppendIntMem
import Derived.LaidLaws
import Derived.Lib.SmallJoins
import Derived.Lib.LaidIn
import Derived.Lib.LaidTab
import Derived.Lib.LaidU8
import Derived.Lib.LaidU8T
import Derived.Deep.DeepHandedRow
import Derived.Deep.DeepWitnessRowRef
import Derived.ProofKit
import Derived.SizedLaws
import Derived.SevenTiedAt
namespace Go.Proofs.YtfammikhejjjcaaDoor.RowXKit
set_option linter.unusedVariables false
open Go.ChangeShapes Go.WideShapes Go.ChangeAt Go.RowKit Go.Lib Go.Proofs.YtfammikhejjjcaaDoorW.PrintWords Go.Proofs.YtfammikhejjjcaaDoor.Lex Go.Proofs.YtfammikhejjjcaaDoor.Open
theorem own : ownKnob Tryd.prog.godebug = none := by kernel_rfl
theorem laidOut : laidOutB Tryd.prog = true := by kernel_rfl
/-- The settled world, the listed variables holding what their initialisers lay. -/
noncomputable def laidWorld (os : Os) : World := World.laidAll Tryd.prog os Rows.lexReadsRow.laid
theorem fits (os : Os) : (World.holding Tryd.prog os ⟨#[], #[], []⟩).layFits Tryd.prog Rows.lexReadsRow.laid [] = true := by kernel_rfl
theorem ifaces (os : Os) : (World.holding Tryd.prog os ⟨#[], #[], []⟩).layIfaces Tryd.prog Rows.lexReadsRow.laid (World.laidAll Tryd.prog os Rows.lexReadsRow.laid) = true := by kernel_rfl
theorem space_data : (Rows.laid_strings_asciiSpace : DataW Unit) = Lib.tabData .u8 Lib.asciiSpaceTab := by kernel_rfl
theorem tabs_of {W : World} {laid : List (String × DataW Unit)} (h1 : Go.laidMet Tryd.prog laid W) (ha : ("unicode/utf8.acceptRanges", Lib.acceptData) ∈ laid) (hf : ("unicode/utf8.first", Lib.firstData) ∈ laid) (hs : ("strings.asciiSpace", Rows.laid_strings_asciiSpace) ∈ laid) (he : ("strconv.ErrRange", Rows.laid_strconv_ErrRange) ∈ laid) : Tbx W := by
  have ht : Lib.Utf8Tabs 3 4 W :=
    utf8Tabs_of_readsT (U8Types.of196 Tryd.laysValid) ⟨by kernel_rfl, by kernel_rfl, by kernel_rfl, by kernel_rfl, by kernel_rfl, by kernel_rfl, by kernel_rfl⟩ (Lib.laidMet.reads h1 hf) (Lib.laidMet.reads h1 ha)
  have hT : Lib.TabIs Tryd.prog W "strings.asciiSpace" .u8 Lib.asciiSpaceTab := by
    obtain ⟨g', t', cs, fuel, p, hg', ht', hvar, hd⟩ := Lib.laidMet.reads h1 hs
    rw [space_data] at hd
    have hg : Tryd.prog.globalNamed "strings.asciiSpace" = some 0 := by kernel_rfl
    obtain rfl := Option.some.inj (hg.symm.trans hg')
    have hty : (Tryd.prog.globals[0]?).map (·.type) = some 57 := by kernel_rfl
    obtain rfl := Option.some.inj (hty.symm.trans ht')
    unfold Lib.TabIs
    rw [hvar, ← Lib.cells_of_tab (show Tryd.prog.underlying 57 = some (.array 256 5) by kernel_rfl) Tryd.underlying5 (by kernel_rfl) (by kernel_rfl) hd]
  have hE : ∃ te pe, W.cell? ⟨6, 0, none⟩ = some (.iface te pe) := by
    obtain ⟨g', t', cs, fuel, p, hg', ht', hvar, hd⟩ := Lib.laidMet.reads h1 he
    have hg : Tryd.prog.globalNamed "strconv.ErrRange" = some 6 := by kernel_rfl
    obtain rfl := Option.some.inj (hg.symm.trans hg')
    have hty : (Tryd.prog.globals[6]?).map (·.type) = some 50 := by kernel_rfl
    obtain rfl := Option.some.inj (hty.symm.trans ht')
    obtain ⟨_, u, v, hcs, _, _⟩ := iface_of_trod Tryd.underlying50 hd
    have h0 := World.var?_cell hg hvar 0
    refine ⟨u, v, ?_⟩
    have h2 : cs[0]? = some (.iface u v) := by
      have := congrArg (·[0]?) hcs
      simpa using this
    rw [← h2]
    simpa using h0
  intro W' hW
  refine ⟨Utf8Tabs_below ht hW, Lib.tabBelow_of_tabIs hT W' hW, ?_⟩
  obtain ⟨te, pe, hc⟩ := hE
  exact ⟨te, pe, (hW.cell (lt_of_cell hc)).trans hc⟩
end Go.Proofs.YtfammikhejjjcaaDoor.RowXKit
