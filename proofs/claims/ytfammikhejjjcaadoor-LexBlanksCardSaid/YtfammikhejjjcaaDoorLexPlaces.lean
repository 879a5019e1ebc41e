/- Each word stands at its place, and between words there are blanks and remarks alone, in plain Lean. No condition. -/
import Derived.Test.YtfammikhejjjcaaDoorLexCut
namespace Go.Proofs.YtfammikhejjjcaaDoor.LexSpec
set_option linter.unusedVariables false
set_option linter.unusedSimpArgs false
open Go Go.Lib Go.Proofs.YtfammikhejjjcaaDoor.LatSpec Go.Proofs.YtfammikhejjjcaaDoor.Kinds
abbrev z0 : T := z36
/-- Where the word ahead of word i ends. -/
def endAt : Nat → List T → Nat → Nat
  | g, _, 0 => g
  | g, [], _ + 1 => g
  | _, t :: ts, i + 1 => endAt (t.f3.toNat + t.f1.size) ts i
/-- Where word i begins, or the text ends. -/
def nextAt (n : Nat) (ts : List T) (i : Nat) : Nat := if i < ts.length then (ts.getD i z0).f3.toNat else n
structure PlaceAt (s : L) (e nx : Nat) : Prop where
  le : e ≤ nx
  end_ : nx ≤ s.length
  emp : LexSpec.emp false ((s.drop e).take (nx - e)) = true
structure WordAt (s : L) (t : T) : Prop where
  at0 : 0 ≤ t.f3
  pos : 0 < t.f1.size
  le : t.f3.toNat + t.f1.size ≤ s.length
  text : (s.drop t.f3.toNat).take t.f1.size = t.f1.data.toList
theorem mkT_size {l : L} {t : Tk} {a : Nat} (h : t.m ≤ l.length) : (mkT t l a).f1.size = t.m := by
  have : (mkT t l a).f1.size = (mkT t l a).f1.data.toList.length := by simp
  rw [this, mkT]
  simp
  omega
theorem places {s : L} {l l' : L} {a n : Nat} {ts : List T} (h : Run l a l' n ts) : ∀ g, l = s.drop a → a ≤ s.length → n = s.length → l' = [] → g ≤ a → Run (s.drop g) g (s.drop a) a [] →
    (∀ i, i ≤ ts.length → PlaceAt s (endAt g ts i) (nextAt s.length ts i)) ∧ (∀ t ∈ ts, WordAt s t) := by
  induction h with
  | nil l a =>
    intro g hl ha hn hl' hg G
    refine ⟨fun i hi => ?_, fun t ht => by cases ht⟩
    obtain rfl : i = 0 := by simpa using hi
    subst hn
    exact ⟨hg, Nat.le_refl _, G.emp rfl⟩
  | @skip l l' a a' k pre hs h ih =>
    intro g hl ha hn hl' hg G
    have hk := skip_pos hs
    rw [hl, List.length_drop] at hk
    subst hl
    refine ih g (by rw [List.drop_drop]) (by omega) hn hl' (by omega) (G.trans (.skip hs ?_))
    rw [List.drop_drop]
    exact .nil _ _
  | @tok l l' a a' t pre hne hs hn2 h ih =>
    intro g hl ha hn hl' hg G
    have hm := next_pos hn2
    have hsz := mkT_size (a := a) hm.2
    rw [hl, List.length_drop] at hm
    obtain ⟨i1, i2⟩ := ih (a + t.m) (by rw [hl, List.drop_drop]) (by omega) hn hl' (Nat.le_refl _) (.nil _ _)
    have hf3 : (mkT t l a).f3.toNat = a := by simp [mkT]
    refine ⟨fun i hi => ?_, fun u hu => ?_⟩
    · cases i with
      | zero =>
        have e1 : nextAt s.length (mkT t l a :: pre) 0 = a := by
          rw [nextAt, if_pos (by simp)]
          exact hf3
        rw [e1]
        exact ⟨hg, ha, G.emp rfl⟩
      | succ i =>
        have e1 : nextAt s.length (mkT t l a :: pre) (i + 1) = nextAt s.length pre i := by
          simp [nextAt]
        have e2 : endAt g (mkT t l a :: pre) (i + 1) = endAt (a + t.m) pre i := by
          rw [endAt, hf3, hsz]
        rw [e1, e2]
        exact i1 i (by simpa using hi)
    · rw [List.mem_cons] at hu
      rcases hu with rfl | hu
      · refine ⟨by simp [mkT], by rw [hsz]; omega, by rw [hf3, hsz]; omega, ?_⟩
        rw [hf3, hsz, ← hl]
        simp [mkT]
      · exact i2 u hu
/-- The whole text. -/
theorem places_of {s : L} {ts : List T} (h : rd s 0 0 = .ok ts) : (∀ i, i ≤ ts.length → PlaceAt s (endAt 0 ts i) (nextAt s.length ts i)) ∧ (∀ t ∈ ts, WordAt s t) := by
  have hr := (rd_run s.length s 0 0 (Nat.le_refl _) ts h).1
  rw [Nat.zero_add] at hr
  exact places hr 0 (by simp) (Nat.zero_le _) rfl rfl (Nat.le_refl _) (.nil _ _)
theorem endAt_succ : ∀ (ts : List T) (g i : Nat), i < ts.length → endAt g ts (i + 1) = (ts.getD i z0).f3.toNat + (ts.getD i z0).f1.size
  | [], _, _, h => by simp at h
  | t :: ts, g, 0, _ => by simp [endAt]
  | t :: ts, g, i + 1, h => by
    rw [endAt, endAt_succ ts _ i (by simpa using h)]
    simp
end Go.Proofs.YtfammikhejjjcaaDoor.LexSpec
