/- The lattice of low and high, in plain words. No program is in sight. No condition. -/
import Derived.Test.YtokogcfcaehifaaDoorLatJoin
import Derived.Test.YtokogcfcaehifaaDoorMakeSpec
namespace Go.Proofs.YtokogcfcaehifaaDoor.AwakeSpec
set_option linter.unusedVariables false
open Go Go.Proofs.YtokogcfcaehifaaDoor.LatSpec Go.Proofs.YtokogcfcaehifaaDoor.LatLeq Go.Proofs.YtokogcfcaehifaaDoor.LatJoin Go.Proofs.YtokogcfcaehifaaDoor.MakeSpec
def low : ByteArray := ⟨#[108, 111, 119]⟩
def high : ByteArray := ⟨#[104, 105, 103, 104]⟩
def latA : Lat := ⟨[low, high], [[true, true], [false, true]]⟩
theorem name_low : nameP low.data.toList = true := by rw [← name_eq]; decide
theorem name_high : nameP high.data.toList = true := by rw [← name_eq]; decide
theorem low_high : low ≠ high := by decide
theorem two {P : Nat → Prop} (h0 : P 0) (h1 : P 1) : ∀ i, i < 2 → P i
  | 0, _ => h0
  | 1, _ => h1
theorem formedA : FormedL latA where
  few := by decide
  sq := by decide
  nm := two ⟨name_low, (fun h => by cases h), by decide⟩ ⟨name_high, (fun h => low_high (List.mem_singleton.1 (show high ∈ [low] from h)).symm), by decide⟩
  refl := two (by decide) (by decide)
  anti := by
    intro a b ha hb
    exact two (P := fun a => ∀ b, b < 2 → a ≠ b → ord latA a b = true → ord latA b a = true → False) (by decide) (by decide) a ha b hb
  trans := by
    intro a b c ha hb hc
    exact two (P := fun a => ∀ b, b < 2 → ∀ c, c < 2 → ord latA a b = true → ord latA b c = true → ord latA a c = true) (by decide) (by decide) a ha b hb c hc
  bounds := by
    intro a b ha hb
    exact two (P := fun a => ∀ b, b < 2 → boundN latA true a b ≠ -1 ∧ boundN latA false a b ≠ -1) (two (by decide) (by decide)) (two (by decide) (by decide)) a ha b hb
theorem formedBA : formedB latA = true := formedB_true formedA
def pairsA : List (Int × Int) := [(0, 1)]
theorem cloA {M : Nat → Nat → Bool} (h : IsClo 2 (initM pairsA) M) : latOf [low, high] M = latA := by
  have h00 : M 0 0 = true := h.sub 0 0 (by omega) (by omega) (by decide)
  have h01 : M 0 1 = true := h.sub 0 1 (by omega) (by omega) (by decide)
  have h11 : M 1 1 = true := h.sub 1 1 (by omega) (by omega) (by decide)
  have h10 : M 1 0 = false := by
    cases hm : M 1 0
    · rfl
    · have := h.least (fun x y => decide (x ≤ y)) (by
        intro x y hx hy
        exact two (P := fun x => ∀ y, y < 2 → initM pairsA x y = true → decide (x ≤ y) = true) (by decide) (by decide) x hx y hy) (by
        intro x y z _ _ _ h1 h2
        simp only [decide_eq_true_eq] at *
        omega) 1 0 (by omega) (by omega) hm
      simp at this
  have hr : List.range 2 = [0, 1] := by decide
  simp only [latOf, List.length_cons, List.length_nil, Nat.reduceAdd, hr, List.map_cons, List.map_nil, h00, h01, h10, h11]
  rfl
theorem saidA {l : Lat} {e : Int} (h : MakeSaid [low, high] pairsA l e) : l = latA ∧ e = 0 := by
  rcases h with ⟨h1, _⟩ | ⟨_, _, h3, _⟩ | ⟨_, _, _, M, hM, h4⟩
  · exact absurd (by decide) h1
  · refine absurd (fun p hp => ?_) h3
    simp only [pairsA, List.mem_singleton] at hp
    subst hp
    exact ⟨by decide, by decide, by decide, by decide⟩
  · have e := cloA hM
    rw [e, formedBA] at h4
    rcases h4 with ⟨_, rfl, rfl⟩ | ⟨h, _⟩
    · exact ⟨rfl, rfl⟩
    · cases h
theorem leqA01 : leqB latA 0 1 = true := by
  have h : rightB latA [0, 1] = true := right_iff.2 ⟨⟨0, 1, rfl, rfl, by decide, by decide⟩, formedBA⟩
  rw [leqB, h]; decide
theorem leqA10 : leqB latA 1 0 = false := by
  have h : rightB latA [1, 0] = true := right_iff.2 ⟨⟨1, 0, rfl, rfl, by decide, by decide⟩, formedBA⟩
  rw [leqB, h]; decide
theorem topA : topI latA = 1 := by
  rw [topI, formedBA]; decide
theorem nsA : Ns latA := by
  intro s hs
  simp only [latA, List.mem_cons, List.mem_nil_iff, or_false] at hs
  rcases hs with rfl | rfl <;> decide
end Go.Proofs.YtokogcfcaehifaaDoor.AwakeSpec
