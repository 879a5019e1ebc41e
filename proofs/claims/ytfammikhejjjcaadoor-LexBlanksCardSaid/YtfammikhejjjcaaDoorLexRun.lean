/- Words one behind the other, as steps; what cutting and lengthening a text changes, in plain Lean. No condition. -/
import Derived.Test.YtfammikhejjjcaaDoorLexLaw
namespace Go.Proofs.YtfammikhejjjcaaDoor.LexSpec
set_option linter.unusedVariables false
set_option linter.unusedSimpArgs false
open Go Go.Lib Go.Proofs.YtfammikhejjjcaaDoor.LatSpec Go.Proofs.YtfammikhejjjcaaDoor.Kinds
/-- From one place on, over blanks, remarks and words, to another. -/
inductive Run : L → Nat → L → Nat → List T → Prop
  | nil (l : L) (a : Nat) : Run l a l a []
  | skip {l l' : L} {a a' k : Nat} {pre : List T} (hs : skip1 l = some k) (h : Run (l.drop k) (a + k) l' a' pre) : Run l a l' a' pre
  | tok {l l' : L} {a a' : Nat} {t : Tk} {pre : List T} (hne : l ≠ []) (hs : skip1 l = none) (hn : next l = some t) (h : Run (l.drop t.m) (a + t.m) l' a' pre) : Run l a l' a' (mkT t l a :: pre)
theorem Run.rd {l l' : L} {a a' : Nat} {pre : List T} (h : Run l a l' a' pre) : ∀ cnt, cnt + pre.length ≤ 2000 → LexSpec.rd l a cnt = appR pre (LexSpec.rd l' a' (cnt + pre.length)) := by
  induction h with
  | nil l a => intro cnt _; rw [appR_nil]; rfl
  | skip hs h ih => intro cnt hc; rw [rd_skip hs, ih cnt hc]
  | @tok l l' a a' t pre hne hs hn h ih =>
    intro cnt hc
    simp only [List.length_cons] at hc
    rw [rd_tok hne hs hn _ (by omega), ih (cnt + 1) (by omega), appR_app, List.length_cons]
    congr 2
    omega
theorem Run.at_le {l l' : L} {a a' : Nat} {pre : List T} (h : Run l a l' a' pre) : a ≤ a' ∧ a' - a ≤ l.length ∧ l' = l.drop (a' - a) := by
  induction h with
  | nil l a => simp
  | @skip l l' a a' k pre hs h ih =>
    obtain ⟨h1, h2, h3⟩ := ih
    have hp := skip_pos hs
    rw [List.length_drop] at h2
    refine ⟨by omega, by omega, ?_⟩
    rw [h3, List.drop_drop]
    congr 1
    omega
  | @tok l l' a a' t pre hne hs hn h ih =>
    obtain ⟨h1, h2, h3⟩ := ih
    have hp := next_pos hn
    rw [List.length_drop] at h2
    refine ⟨by omega, by omega, ?_⟩
    rw [h3, List.drop_drop]
    congr 1
    omega
theorem Run.trans {l l' l2 : L} {a a' a2 : Nat} {pre pre2 : List T} (h : Run l a l' a' pre) (k : Run l' a' l2 a2 pre2) : Run l a l2 a2 (pre ++ pre2) := by
  induction h with
  | nil l a => exact k
  | skip hs h ih => exact .skip hs (ih k)
  | tok hne hs hn h ih => exact .tok hne hs hn (ih k)
/-- What is read, as steps. -/
theorem rd_run : ∀ (n : Nat) (l : L) (a cnt : Nat), l.length ≤ n → ∀ ts, rd l a cnt = .ok ts → Run l a [] (a + l.length) ts ∧ (cnt ≤ 2000 → cnt + ts.length ≤ 2000)
  | _, [], a, cnt, _, ts, h => by
    rw [rd_nil] at h
    injection h with h
    subst h
    exact ⟨.nil _ _, fun h => by simpa using h⟩
  | 0, _ :: _, _, _, h, _, _ => by simp at h
  | n + 1, b :: t, a, cnt, hl, ts, h => by
    simp only [List.length_cons] at hl
    cases hs : skip1 (b :: t) with
    | some k =>
      have hp := skip_pos hs
      rw [rd_skip hs] at h
      obtain ⟨h1, h2⟩ := rd_run n _ _ _ (by simp only [List.length_drop, List.length_cons]; omega) ts h
      refine ⟨.skip hs ?_, h2⟩
      rw [List.length_drop, show a + k + ((b :: t).length - k) = a + (b :: t).length by omega] at h1
      exact h1
    | none =>
      cases hn : next (b :: t) with
      | none => rw [rd_bad (by simp) hs hn] at h; cases h
      | some tk =>
        have hp := next_pos hn
        by_cases hc : 2000 ≤ cnt
        · rw [rd_full (by simp) hs hn _ hc] at h; cases h
        · rw [rd_tok (by simp) hs hn _ (by omega)] at h
          cases hr : rd ((b :: t).drop tk.m) (a + tk.m) (cnt + 1) with
          | error e => rw [hr] at h; cases h
          | ok us =>
            rw [hr] at h
            injection h with h
            subst h
            obtain ⟨h1, h2⟩ := rd_run n _ _ _ (by simp only [List.length_drop, List.length_cons]; omega) us hr
            rw [List.length_drop, show a + tk.m + ((b :: t).length - tk.m) = a + (b :: t).length by omega] at h1
            refine ⟨.tok (by simp) hs hn h1, fun _ => ?_⟩
            have := h2 (by omega)
            simp only [List.length_append, List.length_cons, List.length_nil]
            omega
/-- A fault, as steps. -/
theorem rd_fault : ∀ (n : Nat) (l : L) (a cnt : Nat), l.length ≤ n → cnt ≤ 2000 → ∀ p e, rd l a cnt = .error (p, e) → ∃ l' pre, Run l a l' p pre ∧ cnt + pre.length ≤ 2000 ∧ l' ≠ [] ∧ skip1 l' = none ∧ ((e = 2 ∧ next l' = none) ∨ e = 7)
  | _, [], a, cnt, _, _, p, e, h => by rw [rd_nil] at h; cases h
  | 0, _ :: _, _, _, h, _, _, _, _ => by simp at h
  | n + 1, b :: t, a, cnt, hl, hc, p, e, h => by
    simp only [List.length_cons] at hl
    cases hs : skip1 (b :: t) with
    | some k =>
      have hp := skip_pos hs
      rw [rd_skip hs] at h
      obtain ⟨l', pre, h1, h2⟩ := rd_fault n _ _ _ (by simp only [List.length_drop, List.length_cons]; omega) hc p e h
      exact ⟨l', pre, .skip hs h1, h2⟩
    | none =>
      cases hn : next (b :: t) with
      | none =>
        rw [rd_bad (by simp) hs hn] at h
        injection h with h
        injection h with h1 h2
        subst h1
        subst h2
        exact ⟨b :: t, [], .nil _ _, by simpa using hc, by simp, hs, .inl ⟨rfl, hn⟩⟩
      | some tk =>
        have hp := next_pos hn
        by_cases hc2 : 2000 ≤ cnt
        · rw [rd_full (by simp) hs hn _ hc2] at h
          injection h with h
          injection h with h1 h2
          subst h1
          subst h2
          exact ⟨b :: t, [], .nil _ _, by simpa using hc, by simp, hs, .inr rfl⟩
        · rw [rd_tok (by simp) hs hn _ (by omega)] at h
          cases hr : rd ((b :: t).drop tk.m) (a + tk.m) (cnt + 1) with
          | ok us => rw [hr] at h; cases h
          | error er =>
            rw [hr] at h
            injection h with h
            subst h
            obtain ⟨l', pre, h1, h2, h3⟩ := rd_fault n _ _ _ (by simp only [List.length_drop, List.length_cons]; omega) (by omega) p e hr
            refine ⟨l', mkT tk (b :: t) a :: pre, .tok (by simp) hs hn h1, by simp only [List.length_cons]; omega, h3⟩
end Go.Proofs.YtfammikhejjjcaaDoor.LexSpec
