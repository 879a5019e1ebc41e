/- What the rows of this claim share: a lattice as an argument, the settled world in which the two tables of unicode/utf8 are laid. -/
import Derived.Test.YtokogcfcaehifaaDoorRows
import Derived.Test.YtokogcfcaehifaaDoorCards
import Derived.Test.YtokogcfcaehifaaDoorTie
import Derived.Test.YtokogcfcaehifaaDoorOpen
import Derived.Test.YtokogcfcaehifaaDoorLatLeq
import Derived.Lib.SmallJoins
import Derived.Lib.LaidIn
import Derived.Lib.LaidU8T
import Derived.Deep.DeepHandedRow
import Derived.Deep.DeepWitnessRowRef
import Derived.ProofKit
import Derived.SizedLaws
import Derived.SevenTiedAt
namespace Go.Proofs.YtokogcfcaehifaaDoor.RowKitL
set_option linter.unusedVariables false
open Go.ChangeShapes Go.WideShapes Go.ChangeAt Go.RowKit Go.Lib Go.Proofs.YtokogcfcaehifaaDoorW.PrintWords Go.Proofs.YtokogcfcaehifaaDoor.LatSpec Go.Proofs.YtokogcfcaehifaaDoor.LatWalk Go.Proofs.YtokogcfcaehifaaDoor.LatLeq Go.Proofs.YtokogcfcaehifaaDoor.Open
theorem own : ownKnob Tryd.prog.godebug = none := by kernel_rfl
theorem laidOut : laidOutB Tryd.prog = true := by kernel_rfl
theorem okWide_one {W : World} {t e : TypeId} {b0 : Nat} {v : Value} (ht : Tryd.prog.underlying t = some (.slice e)) (h : Value.okWide Tryd.prog W .any b0 t v) : v.cells.toList = [v] := by
  simp only [Value.okWide, ht] at h
  cases v <;> first | rfl | (exfalso; simp [Cell.okWide, Cell.ok, ht] at h)
section
variable {H : Type} {enc : TypeId × Value → H} {w : World}
theorem opens_strings (n : Nat) : Opens enc Tryd.prog w n 22 (Kd.slice 9 Kd.string) (fun ys => (∀ y ∈ ys, y.size ≤ maxLen) ∧ ys.length ≤ maxLen) :=
  opens_slice Tryd.underlying22 (by kernel_rfl) (fun _ => opens_string Tryd.underlying9)
theorem opens_rows (n : Nat) : Opens enc Tryd.prog w n 23 (Kd.slice 46 (Kd.slice 4 Kd.bool)) (fun ys => (∀ y ∈ ys, (∀ z ∈ y, True) ∧ y.length ≤ maxLen) ∧ ys.length ≤ maxLen) :=
  opens_slice Tryd.underlying23 (by kernel_rfl) (fun _ => opens_slice Tryd.underlying46 (by kernel_rfl) (fun _ => opens_bool Tryd.underlying4))
theorem opens_pair (n : Nat) : Opens enc Tryd.prog w n 37 (Kd.pair (Kd.int .i64) (Kd.int .i64)) (fun _ => True) := by
  intro cs x h
  obtain ⟨xs, m, _, _, hc, hl, hi⟩ := DataW.trod_array (show Tryd.prog.underlying 37 = some (.array 2 3) by kernel_rfl) h
  rw [show Tryd.prog.cellsOf 37 = 2 by kernel_rfl] at hc
  rw [show Tryd.prog.cellsOf 3 = 1 by kernel_rfl] at hi
  match cs, hc with
  | [u, v], _ =>
    match xs, hl with
    | [y0, y1], _ =>
      obtain ⟨a, ka, _⟩ := opens_int (w := w) (n := m) (ik := .i64) Tryd.underlying3 _ _ (by simpa using hi 0 (by omega))
      obtain ⟨b, kb, _⟩ := opens_int (w := w) (n := m) (ik := .i64) Tryd.underlying3 _ _ (by simpa using hi 1 (by omega))
      obtain rfl : u = .int .i64 a := by simpa [Kd.int, Kd.scalar] using ka
      obtain rfl : v = .int .i64 b := by simpa [Kd.int, Kd.scalar] using kb
      exact ⟨(a, b), ⟨[.int .i64 a], [.int .i64 b], rfl, rfl, rfl⟩, trivial⟩
theorem opens_pairs (n : Nat) : Opens enc Tryd.prog w n 30 (Kd.slice 37 (Kd.pair (Kd.int .i64) (Kd.int .i64))) (fun ys => (∀ y ∈ ys, True) ∧ ys.length ≤ maxLen) :=
  opens_slice Tryd.underlying30 (by kernel_rfl) (fun _ => opens_pair _)
/-- A list of pairs, as an argument. -/
theorem open_pairs {v : Value} {d : DataW H} {p : List MemPlace} {b0 : Nat} (hv : Value.okWide Tryd.prog w .any b0 30 v) (h : DataW.Trod enc Tryd.prog w 0 (fun _ => true) true 30 v d p) :
    ∃ (ps : List (Int × Int)) (A : Option Addr) (c : Nat), v = .slice A ps.length c ∧ (Kd.pair (Kd.int .i64) (Kd.int .i64)).C w A ps.length ps := by
  obtain ⟨n, h0⟩ := h
  rw [okWide_one Tryd.underlying30 hv] at h0
  obtain ⟨ps, ⟨A, c, e0, _, r0⟩, _⟩ := opens_pairs (w := w) n _ _ h0
  exact ⟨ps, A, c, by simpa using e0, r0⟩
/-- A list of texts, as an argument. -/
theorem open_strings {v : Value} {d : DataW H} {p : List MemPlace} {b0 : Nat} (hv : Value.okWide Tryd.prog w .any b0 22 v) (h : DataW.Trod enc Tryd.prog w 0 (fun _ => true) true 22 v d p) :
    ∃ (ns : List ByteArray) (A : Option Addr) (c : Nat), v = .slice A ns.length c ∧ Kd.string.C w A ns.length ns ∧ ∀ s ∈ ns, s.size ≤ 9223372036854775807 := by
  obtain ⟨n, h0⟩ := h
  rw [okWide_one Tryd.underlying22 hv] at h0
  obtain ⟨ns, ⟨A, c, e0, _, r0⟩, g0⟩ := opens_strings (w := w) n _ _ h0
  exact ⟨ns, A, c, by simpa using e0, r0, fun s hs => by have := g0.1 s hs; unfold maxLen at this; omega⟩
/-- A lattice, as an argument. -/
theorem open_lat {b0 : Nat} {v : Value} {d : DataW H} {p : List MemPlace} (hv : Value.okWide Tryd.prog w .any b0 25 v) (h : DataW.Trod enc Tryd.prog w 0 (fun _ => true) true 25 v d p) :
    ∃ l A c B d', v = .agg #[.slice A l.names.length c, .slice B l.order.length d'] ∧ LR w l A c B d' ∧ Ns l := by
  obtain ⟨v0, v1, y0, y1, n, rfl, _, _, h0, h1⟩ := Go.Joins.open_agg2 Tryd.underlying25 (by kernel_rfl) (by kernel_rfl) hv h
  obtain ⟨ns, ⟨A, c, e0, k0, r0⟩, g0⟩ := opens_strings (w := w) n _ _ h0
  obtain ⟨rs, ⟨B, d', e1, k1, r1⟩, g1⟩ := opens_rows (w := w) n _ _ h1
  obtain rfl : v0 = .slice A ns.length c := by simpa using e0
  obtain rfl : v1 = .slice B rs.length d' := by simpa using e1
  exact ⟨⟨ns, rs⟩, A, c, B, d', rfl, ⟨k0, k1, r0, r1⟩, fun s hs => by have := g0.1 s hs; unfold maxLen at this; omega⟩
end
/-- The settled world, the two variables holding what their initialisers lay. -/
noncomputable def laidWorld (os : Os) : World :=
  let w0 := World.holding Tryd.prog os ⟨#[], #[], []⟩
  let put (h : Array Obj) (g : Nat) (cs : Array Value) : Array Obj := h.modify g fun
    | .cells _ t frozen => .cells cs t frozen
    | o => o
  let h1 := put w0.heap 0 (Lib.firstTab.map fun z => Value.int .u8 z).toArray
  let h2 := put h1 1 ((List.range 16).flatMap fun i => [Value.int .u8 (Lib.accLo i), Value.int .u8 (Lib.accHi i)]).toArray
  { w0 with heap := h2 }
theorem tabs_of {W : World} {laid : List (String × DataW Unit)} (h1 : Go.laidMet Tryd.prog laid W) (ha : ("unicode/utf8.acceptRanges", Lib.acceptData) ∈ laid) (hf : ("unicode/utf8.first", Lib.firstData) ∈ laid) : Tb W := by
  have ht : Lib.Utf8Tabs 0 1 W :=
    utf8Tabs_of_readsT (U8Types.of196 Tryd.laysValid) ⟨by kernel_rfl, by kernel_rfl, by kernel_rfl, by kernel_rfl, by kernel_rfl, by kernel_rfl, by kernel_rfl⟩ (Lib.laidMet.reads h1 hf) (Lib.laidMet.reads h1 ha)
  exact fun W' hW => Utf8Tabs_below ht hW
end Go.Proofs.YtokogcfcaehifaaDoor.RowKitL
