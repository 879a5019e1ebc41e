/- What the rows of this claim share: a value as an argument, the settled world in which the listed tables are laid. -/
import Derived.Test.YtcikgloiojglpaaDoorRows
import Derived.Test.YtcikgloiojglpaaDoorCards
import Derived.Test.YtcikgloiojglpaaDoorTie
import Derived.Test.YtcikgloiojglpaaDoorOpen2
import Derived.Test.YtcikgloiojglpaaDoorVal5
import Derived.Lib.SmallJoins
import Derived.Lib.LaidIn
import Derived.Lib.LaidTab
import Derived.Lib.LaidU8
import Derived.Deep.DeepHandedRow
import Derived.Deep.DeepWitnessRowRef
import Derived.ProofKit
import Derived.SizedLaws
import Derived.SevenTiedAt
namespace Go.Proofs.YtcikgloiojglpaaDoor.RowVKit
set_option linter.unusedVariables false
open Go.ChangeShapes Go.WideShapes Go.ChangeAt Go.RowKit Go.Lib Go.Proofs.YtcikgloiojglpaaDoorW.PrintWords Go.Proofs.YtcikgloiojglpaaDoor.Kinds Go.Proofs.YtcikgloiojglpaaDoor.ValSpec Go.Proofs.YtcikgloiojglpaaDoor.Val Go.Proofs.YtcikgloiojglpaaDoor.Open
theorem own : ownKnob Tryd.prog.godebug = none := by kernel_rfl
theorem laidOut : laidOutB Tryd.prog = true := by kernel_rfl
section
variable {H : Type} {enc : TypeId × Value → H} {w : World}
theorem opens_V : ∀ n, Opens enc Tryd.prog w n 24 kV good := by
  intro n
  induction n using Nat.strongRecOn with
  | _ n ih =>
    intro cs x h
    obtain ⟨xs, m, hfu, _, hl, hxl, hf⟩ := DataW.trod_struct Tryd.underlying24 h
    rw [show Tryd.prog.cellsOf 24 = 3 by kernel_rfl] at hl
    match cs, hl with
    | [a, b, c], _ =>
      match xs, hxl with
      | [y0, y1, y2], _ =>
        have h0 : DataW.trod enc Tryd.prog w 0 (fun _ => true) true m 3 ([a, b, c].take (Tryd.prog.cellsOf 3)) = some y0 := hf 0 _ rfl
        have h1 : DataW.trod enc Tryd.prog w 0 (fun _ => true) true m 2 ([b, c].take (Tryd.prog.cellsOf 2)) = some y1 := hf 1 _ rfl
        have h2 : DataW.trod enc Tryd.prog w 0 (fun _ => true) true m 22 ([c].take (Tryd.prog.cellsOf 22)) = some y2 := hf 2 _ rfl
        rw [show Tryd.prog.cellsOf 3 = 1 by kernel_rfl] at h0
        rw [show Tryd.prog.cellsOf 2 = 1 by kernel_rfl] at h1
        rw [show Tryd.prog.cellsOf 22 = 1 by kernel_rfl] at h2
        obtain ⟨x0, k0, _⟩ := opens_int (w := w) (n := m) (ik := .i64) Tryd.underlying3 _ _ (by simpa using h0)
        obtain ⟨x1, k1, g1⟩ := opens_int (w := w) (n := m) (ik := .i64) Tryd.underlying2 _ _ (by simpa using h1)
        obtain ⟨ps, ⟨A, cc, e2, l2, r2⟩, g2⟩ := opens_slice_lt (e' := 24) (w := w) (n := m) (k := kV) (G := good) Tryd.underlying22 (by kernel_rfl) (fun q hq => ih q (by omega)) _ _ (by simpa using h2)
        obtain rfl : a = .int .i64 x0 := by simpa [Kd.int, Kd.scalar] using k0
        obtain rfl : b = .int .i64 x1 := by simpa [Kd.int, Kd.scalar] using k1
        obtain rfl : c = .slice A ps.length cc := by simpa using e2
        refine ⟨⟨x0, x1, ps⟩, k24_mk w ⟨x0, x1, ps⟩ l2 r2, ?_⟩
        rw [good_eq]
        exact ⟨i64_range g1, goods_of g2.1⟩
/-- A value, as an argument. -/
theorem open_value {b0 : Nat} {v : Value} {d : DataW H} {p : List MemPlace} (hv : Value.okWide Tryd.prog w .any b0 24 v) (h : DataW.Trod enc Tryd.prog w 0 (fun _ => true) true 24 v d p) :
    ∃ (x : V) (A : Option Addr) (c : Nat), v = .agg #[.int .i64 x.f0, .int .i64 x.f1, .slice A x.f2.length c] ∧ VR w x A c ∧ good x := by
  obtain ⟨v0, v1, v2, y0, y1, y2, n, rfl, _, _, h0, h1, h2⟩ := Go.Joins.open_agg3 Tryd.underlying24 (by kernel_rfl) (by kernel_rfl) hv h
  obtain ⟨x0, k0, _⟩ := opens_int (w := w) (n := n) (ik := .i64) Tryd.underlying3 _ _ h0
  obtain ⟨x1, k1, g1⟩ := opens_int (w := w) (n := n) (ik := .i64) Tryd.underlying2 _ _ h1
  obtain ⟨ps, ⟨A, cc, e2, l2, r2⟩, g2⟩ := opens_slice_lt (e' := 24) (w := w) (n := n) (k := kV) (G := good) Tryd.underlying22 (by kernel_rfl) (fun q hq => opens_V q) _ _ h2
  obtain rfl : v0 = .int .i64 x0 := by simpa [Kd.int, Kd.scalar] using k0
  obtain rfl : v1 = .int .i64 x1 := by simpa [Kd.int, Kd.scalar] using k1
  obtain rfl : v2 = .slice A ps.length cc := by simpa using e2
  refine ⟨⟨x0, x1, ps⟩, A, cc, rfl, ⟨l2, r2⟩, ?_⟩
  rw [good_eq]
  exact ⟨i64_range g1, goods_of g2.1⟩
end
def cellsOfD : DataW Unit → Array Value
  | .agg ps => (ps.map fun d => match d with | .lit (.int k n) => Value.int k n | _ => undef).toArray
  | _ => #[]
/-- The settled world, the three variables holding what their initialisers lay. -/
noncomputable def laidWorld (os : Os) : World :=
  let w0 := World.holding Tryd.prog os ⟨#[], #[], []⟩
  let put (h : Array Obj) (g : Nat) (cs : Array Value) : Array Obj := h.modify g fun
    | .cells _ t frozen => .cells cs t frozen
    | o => o
  let h1 := put w0.heap 2 (cellsOfD Rows.laid_math_bits_deBruijn32tab)
  let h2 := put h1 3 (cellsOfD Rows.laid_math_bits_deBruijn64tab)
  let h3 := put h2 0 (cellsOfD Rows.laid_internal_strconv_uint64pow10)
  { w0 with heap := h3 }
theorem pow_data : (Rows.laid_internal_strconv_uint64pow10 : DataW Unit) = Lib.tabData .u64 Lib.pow10Tab := by kernel_rfl
theorem tabs_of {W : World} {laid : List (String × DataW Unit)} (h1 : Go.laidMet Tryd.prog laid W) (ha : ("internal/strconv.uint64pow10", Rows.laid_internal_strconv_uint64pow10) ∈ laid) : Tbi W := by
  obtain ⟨g', t', cs, fuel, p, hg', ht', hvar, hd⟩ := Lib.laidMet.reads h1 ha
  rw [pow_data] at hd
  have hg : Tryd.prog.globalNamed "internal/strconv.uint64pow10" = some 0 := by kernel_rfl
  obtain rfl := Option.some.inj (hg.symm.trans hg')
  have hty : (Tryd.prog.globals[0]?).map (·.type) = some 66 := by kernel_rfl
  obtain rfl := Option.some.inj (hty.symm.trans ht')
  have hT : Lib.TabIs Tryd.prog W "internal/strconv.uint64pow10" .u64 Lib.pow10Tab := by
    unfold Lib.TabIs
    rw [hvar, ← Lib.cells_of_tab (show Tryd.prog.underlying 66 = some (.array 20 56) by kernel_rfl) Tryd.underlying56 (by kernel_rfl) (by kernel_rfl) hd]
  exact Lib.tabBelow_of_tabIs hT
end Go.Proofs.YtcikgloiojglpaaDoor.RowVKit
