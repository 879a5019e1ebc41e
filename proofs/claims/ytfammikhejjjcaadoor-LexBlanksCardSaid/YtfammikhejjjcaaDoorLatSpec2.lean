/- What the chapter on orders says, in plain words, second part: lists of texts, formed lattices. No program is in sight. No condition. -/
import Derived.Test.YtfammikhejjjcaaDoorLatSpec
namespace Go.Proofs.YtfammikhejjjcaaDoor.LatSpec
set_option linter.unusedVariables false
open Go Go.Lib
/-! ### lists of texts -/
theorem str_ne {a b : ByteArray} (h : a ≠ b) : (a.toList == b.toList) = false := by
  rw [beq_eq_false_iff_ne, ByteArray.toList_eq, ByteArray.toList_eq]
  intro e
  apply h
  cases a
  cases b
  simpa [Array.toList_inj] using e
theorem str_eq (a : ByteArray) : (a.toList == a.toList) = true := by simp
open Classical in
/-- The place of the first one that is v; -1: there is none. -/
noncomputable def idxS (xs : List ByteArray) (v : ByteArray) : Int := match (List.range xs.length).find? (fun k => decide (xs.getD k ByteArray.empty = v)) with | some k => k | none => -1
theorem idxS_found {xs : List ByteArray} {v : ByteArray} {k : Nat} (hk : k < xs.length) (h : xs.getD k ByteArray.empty = v) (hj : ∀ j, j < k → xs.getD j ByteArray.empty ≠ v) : idxS xs v = k := by
  rw [idxS, find_range_some hk (decide_eq_true h) (fun j hjk => decide_eq_false (hj j hjk))]
theorem idxS_none {xs : List ByteArray} {v : ByteArray} (hj : ∀ j, j < xs.length → xs.getD j ByteArray.empty ≠ v) : idxS xs v = -1 := by
  rw [idxS, List.find?_eq_none.2 (fun j h => by simpa using hj j (by simpa using h))]
theorem idxS_mem {xs : List ByteArray} {v : ByteArray} : (0 ≤ idxS xs v) ↔ v ∈ xs := by
  by_cases h : ∃ j, j < xs.length ∧ xs.getD j ByteArray.empty = v
  · obtain ⟨j, hj, he⟩ := h
    have hm : v ∈ xs := by
      rw [← he, List.getD_eq_getElem?_getD, List.getElem?_eq_getElem hj]
      exact List.getElem_mem hj
    refine ⟨fun _ => hm, fun _ => ?_⟩
    unfold idxS
    split
    · omega
    · rename_i hn
      rw [List.find?_eq_none] at hn
      exact absurd (hn j (by simpa using hj)) (by simpa using he)
  · have hn : idxS xs v = -1 := idxS_none (fun j hj he => h ⟨j, hj, he⟩)
    rw [hn]
    refine ⟨fun h => by omega, fun hm => ?_⟩
    obtain ⟨j, hj, he⟩ := List.getElem_of_mem hm
    exact absurd ⟨j, hj, by rw [List.getD_eq_getElem?_getD, List.getElem?_eq_getElem hj]; exact he⟩ h
/-! ### formed orders -/
/-- What the names' loop asks of the i-th one. -/
def nmOK (l : Lat) (i : Nat) : Prop := nameP (l.names.getD i ByteArray.empty).data.toList = true ∧ l.names.getD i ByteArray.empty ∉ l.names.take i ∧ (l.order.getD i []).length = l.names.length
structure FormedL (l : Lat) : Prop where
  few : 1 ≤ l.names.length ∧ l.names.length ≤ 8
  sq : l.order.length = l.names.length
  nm : ∀ i, i < l.names.length → nmOK l i
  refl : ∀ i, i < l.names.length → ord l i i = true
  anti : ∀ a b, a < l.names.length → b < l.names.length → a ≠ b → ord l a b = true → ord l b a = true → False
  trans : ∀ a b c, a < l.names.length → b < l.names.length → c < l.names.length → ord l a b = true → ord l b c = true → ord l a c = true
  bounds : ∀ a b, a < l.names.length → b < l.names.length → boundN l true a b ≠ -1 ∧ boundN l false a b ≠ -1
open Classical in
/-- Is an order formed? -/
noncomputable def formedB (l : Lat) : Bool := decide (FormedL l)
theorem formedB_true {l : Lat} (h : FormedL l) : formedB l = true := by simp [formedB, h]
theorem formedB_false {l : Lat} (h : ¬ FormedL l) : formedB l = false := by simp [formedB, h]
theorem of_formedB {l : Lat} (h : formedB l = true) : FormedL l := by simpa [formedB] using h
def transAt (l : Lat) (a b c : Nat) : Prop := ord l a b = true → ord l b c = true → ord l a c = true
def abOK (l : Lat) (a b : Nat) : Prop := (a ≠ b → ord l a b = true → ord l b a = true → False) ∧ ∀ c, c < l.names.length → transAt l a b c
structure ShapedL (l : Lat) : Prop where
  few : 1 ≤ l.names.length ∧ l.names.length ≤ 8
  sq : l.order.length = l.names.length
  nm : ∀ i, i < l.names.length → nmOK l i
open Classical in
/-- Is an order shaped? -/
noncomputable def shapedB (l : Lat) : Bool := decide (ShapedL l)
theorem shapedB_true {l : Lat} (h : ShapedL l) : shapedB l = true := by simp [shapedB, h]
theorem shapedB_false {l : Lat} (h : ¬ ShapedL l) : shapedB l = false := by simp [shapedB, h]
theorem of_shapedB {l : Lat} (h : shapedB l = true) : ShapedL l := by simpa [shapedB] using h
theorem not_mem_take {xs : List ByteArray} {x : ByteArray} {k : Nat} (hk : k ≤ xs.length) (h : ∀ j, j < k → xs.getD j ByteArray.empty ≠ x) : x ∉ xs.take k := by
  intro hm
  obtain ⟨j, hj, he⟩ := List.getElem_of_mem hm
  rw [List.length_take] at hj
  refine h j (by omega) ?_
  rw [List.getElem_take] at he
  rw [List.getD_eq_getElem?_getD, List.getElem?_eq_getElem (by omega)]
  exact he
theorem mem_take {xs : List ByteArray} {k j : Nat} (hk : k ≤ xs.length) (h : j < k) : xs.getD j ByteArray.empty ∈ xs.take k := by
  rw [List.getD_eq_getElem?_getD, List.getElem?_eq_getElem (by omega)]
  exact List.mem_take_iff_getElem.2 ⟨j, by omega, rfl⟩
end Go.Proofs.YtfammikhejjjcaaDoor.LatSpec
