/- A text's words, one behind the other, in plain Lean. No condition. -/
import Derived.Test.YtfammikhejjjcaaDoorLexSpec
namespace Go.Proofs.YtfammikhejjjcaaDoor.LexSpec
set_option linter.unusedVariables false
set_option linter.unusedSimpArgs false
open Go Go.Lib Go.Proofs.YtfammikhejjjcaaDoor.LatSpec Go.Proofs.YtfammikhejjjcaaDoor.Kinds
theorem isD_len {l : L} (h : isD l = true) : 1 ≤ l.length := by
  cases l with
  | nil => simp [isD] at h
  | cons _ _ => simp
theorem sign2_len {l : L} (h : sign2 l = true) : 2 ≤ l.length := by
  match l, h with
  | a :: b :: t, _ => simp
  | [a], h => simp [sign2] at h
  | [], h => simp [sign2] at h
theorem sign1_len {l : L} (h : sign1 l = true) : 1 ≤ l.length := by
  match l, h with
  | a :: t, _ => simp
  | [], h => simp [sign1] at h
theorem next_pos {l : L} {t : Tk} (h : next l = some t) : 1 ≤ t.m ∧ t.m ≤ l.length := by
  rw [next] at h
  by_cases hk : 0 < ks l
  · rw [if_pos hk, nextName] at h
    have hne : l ≠ [] := by rintro rfl; simp [ks] at hk
    have h1 := ofN_len wordP l
    have h2 : ks l ≤ ofN wordP l := by rw [of_word hne, if_pos hk]; omega
    split at h
    · injection h with h
      subst h
      exact ⟨by show 1 ≤ ofN wordP l; omega, h1⟩
    · cases h
  · rw [if_neg hk] at h
    by_cases hd : isD l = true
    · rw [if_pos hd, nextNum] at h
      have hne : l ≠ [] := by rintro rfl; simp [isD] at hd
      have h1 := ofN_len digitR l
      have h2 := (digit_pos hne).2 hd
      split at h
      · injection h with h
        subst h
        exact ⟨h2, h1⟩
      · cases h
    · rw [if_neg hd, nextSign] at h
      split at h
      · rename_i hs
        injection h with h
        subst h
        exact ⟨by show 1 ≤ 2; omega, sign2_len hs⟩
      · split at h
        · rename_i hs
          injection h with h
          subst h
          exact ⟨Nat.le_refl 1, sign1_len hs⟩
        · cases h
/-- Words, or a place and an error. -/
abbrev Res := Except (Nat × Int) (List T)
def appR (xs : List T) : Res → Res
  | .ok ts => .ok (xs ++ ts)
  | .error e => .error e
theorem appR_nil (r : Res) : appR [] r = r := by cases r <;> rfl
theorem appR_app (xs ys : List T) (r : Res) : appR xs (appR ys r) = appR (xs ++ ys) r := by cases r <;> simp [appR]
/-- A word at its place. -/
def mkT (t : Tk) (l : L) (at_ : Nat) : T := ⟨t.k, ⟨(l.take t.m).toArray⟩, t.n, at_⟩
def rdF : Nat → L → Nat → Nat → Res
  | 0, _, _, _ => .ok []
  | n + 1, l, at_, cnt => if l = [] then .ok [] else match skip1 l with
    | some k => rdF n (l.drop k) (at_ + k) cnt
    | none => match next l with
      | none => .error (at_, 2)
      | some t => if 2000 ≤ cnt then .error (at_, 7) else appR [mkT t l at_] (rdF n (l.drop t.m) (at_ + t.m) (cnt + 1))
theorem rdF_nil (n at_ cnt : Nat) : rdF n [] at_ cnt = .ok [] := by cases n <;> simp [rdF]
theorem rdF_fuel : ∀ (n m : Nat) (l : L) (at_ cnt : Nat), l.length ≤ n → l.length ≤ m → rdF n l at_ cnt = rdF m l at_ cnt
  | _, _, [], at_, cnt, _, _ => by rw [rdF_nil, rdF_nil]
  | 0, _, _ :: _, _, _, h, _ => by simp at h
  | _, 0, _ :: _, _, _, _, h => by simp at h
  | n + 1, m + 1, b :: t, at_, cnt, h1, h2 => by
    rw [rdF, rdF]
    simp only [List.length_cons] at h1 h2
    simp only [reduceCtorEq, if_false]
    cases hs : skip1 (b :: t) with
    | some k =>
      have := skip_pos hs
      exact rdF_fuel n m _ _ _ (by simp only [List.length_drop, List.length_cons]; omega) (by simp only [List.length_drop, List.length_cons]; omega)
    | none =>
      cases hn : next (b :: t) with
      | none => rfl
      | some tk =>
        have := next_pos hn
        dsimp only
        rw [rdF_fuel n m _ _ _ (by simp only [List.length_drop, List.length_cons]; omega) (by simp only [List.length_drop, List.length_cons]; omega)]
/-- A text's words from a place on, so many words being read. -/
def rd (l : L) (at_ cnt : Nat) : Res := rdF l.length l at_ cnt
theorem rd_nil (at_ cnt : Nat) : rd [] at_ cnt = .ok [] := rfl
theorem rd_skip {l : L} {k : Nat} (h : skip1 l = some k) (at_ cnt : Nat) : rd l at_ cnt = rd (l.drop k) (at_ + k) cnt := by
  have hp := skip_pos h
  obtain ⟨n, hn⟩ : ∃ n, l.length = n + 1 := ⟨l.length - 1, by omega⟩
  have hne : l ≠ [] := by rintro rfl; simp at hn
  rw [rd, hn, rdF, if_neg hne, h]
  exact rdF_fuel _ _ _ _ _ (by rw [List.length_drop]; omega) (by rw [List.length_drop]; omega)
theorem rd_bad {l : L} (hne : l ≠ []) (hs : skip1 l = none) (hn : next l = none) (at_ cnt : Nat) : rd l at_ cnt = .error (at_, 2) := by
  obtain ⟨n, hn2⟩ : ∃ n, l.length = n + 1 := ⟨l.length - 1, by have := List.length_pos_iff.2 hne; omega⟩
  rw [rd, hn2, rdF, if_neg hne, hs, hn]
theorem rd_full {l : L} {t : Tk} (hne : l ≠ []) (hs : skip1 l = none) (hn : next l = some t) (at_ : Nat) {cnt : Nat} (hc : 2000 ≤ cnt) : rd l at_ cnt = .error (at_, 7) := by
  obtain ⟨n, hn2⟩ : ∃ n, l.length = n + 1 := ⟨l.length - 1, by have := List.length_pos_iff.2 hne; omega⟩
  rw [rd, hn2, rdF, if_neg hne, hs, hn]
  exact if_pos hc
theorem rd_tok {l : L} {t : Tk} (hne : l ≠ []) (hs : skip1 l = none) (hn : next l = some t) (at_ : Nat) {cnt : Nat} (hc : cnt < 2000) : rd l at_ cnt = appR [mkT t l at_] (rd (l.drop t.m) (at_ + t.m) (cnt + 1)) := by
  have hp := next_pos hn
  obtain ⟨n, hn2⟩ : ∃ n, l.length = n + 1 := ⟨l.length - 1, by omega⟩
  rw [rd, hn2, rdF, if_neg hne, hs, hn]
  dsimp only
  rw [if_neg (by omega), rd, rdF_fuel n _ _ _ _ (by rw [List.length_drop]; omega) (Nat.le_refl _)]
/-- What Read answers. -/
def readR (l : L) : Res := if 8192 < l.length then .error (0, 1) else rd l 0 0
def resL : Res → List T
  | .ok ts => ts
  | .error _ => []
def resA : Res → Nat
  | .ok _ => 0
  | .error e => e.1
def resE : Res → Int
  | .ok _ => 0
  | .error e => e.2
end Go.Proofs.YtfammikhejjjcaaDoor.LexSpec
