/- How a text's first word hangs on what stands behind it, in plain Lean. No condition. -/
import Derived.Test.YtfammikhejjjcaaDoorLexRd
namespace Go.Proofs.YtfammikhejjjcaaDoor.LexSpec
set_option linter.unusedVariables false
set_option linter.unusedSimpArgs false
open Go Go.Lib Go.Proofs.YtfammikhejjjcaaDoor.LatSpec Go.Proofs.YtfammikhejjjcaaDoor.Kinds
/-- Nothing, or what begins with a blank. -/
def Sep (e : L) : Prop := e = [] ∨ ∃ t, e = 10 :: t ∨ e = 32 :: t
theorem sep_ks {e : L} (h : Sep e) : ks e = 0 := by
  rcases h with rfl | ⟨t, rfl | rfl⟩
  · rfl
  · rw [ks_low (by decide)]; decide
  · rw [ks_low (by decide)]; decide
theorem sep_D {e : L} (h : Sep e) : isD e = false := by
  rcases h with rfl | ⟨t, rfl | rfl⟩ <;> rfl
theorem sep_word {e : L} (h : Sep e) : ofN wordP e = 0 := by
  by_cases hne : e = []
  · rw [hne, ofN_nil]
  · rw [of_word hne, sep_ks h, sep_D h]; rfl
theorem sep_digit {e : L} (h : Sep e) : ofN digitR e = 0 := by
  by_cases hne : e = []
  · rw [hne, ofN_nil]
  · rw [of_digit hne, sep_D h]; rfl
theorem ks_sep {b : UInt8} {e : L} (hb : ¬ b.toNat < 128) (h : Sep e) : ks (b :: e) = 0 := by
  rcases h with rfl | ⟨t, rfl | rfl⟩
  · exact ks_one hb
  · rw [ks_two hb, if_neg (by simp [greek])]
  · rw [ks_two hb, if_neg (by simp [greek])]
theorem ks_loc {l e : L} {j : Nat} (hne : l ≠ []) (hj : 1 ≤ j) (hk : ks l ≤ j) (he : Sep e) : ks (l.take j ++ e) = ks l := by
  obtain ⟨i, rfl⟩ : ∃ i, j = i + 1 := ⟨j - 1, by omega⟩
  match l, hne with
  | b :: t, _ =>
    by_cases hb : b.toNat < 128
    · rw [List.take_succ_cons, List.cons_append, ks_low hb, ks_low hb]
    · match t with
      | [] => rw [List.take_succ_cons, List.take_nil, List.cons_append, List.nil_append, ks_sep hb he, ks_one hb]
      | c :: t' =>
        rw [ks_two hb] at hk ⊢
        cases i with
        | zero =>
          rw [show (b :: c :: t').take (0 + 1) ++ e = b :: e from rfl, ks_sep hb he]
          split at hk
          · omega
          · rename_i hg; rw [if_neg hg]
        | succ i =>
          rw [List.take_succ_cons, List.take_succ_cons, List.cons_append, List.cons_append, ks_two hb]
theorem isD_loc {l e : L} {j : Nat} (hne : l ≠ []) (hj : 1 ≤ j) : isD (l.take j ++ e) = isD l := by
  obtain ⟨i, rfl⟩ : ∃ i, j = i + 1 := ⟨j - 1, by omega⟩
  match l, hne with
  | b :: t, _ => rfl
theorem take_ne {l e : L} {j : Nat} (hne : l ≠ []) (hj : 1 ≤ j) : l.take j ++ e ≠ [] := by
  obtain ⟨i, rfl⟩ : ∃ i, j = i + 1 := ⟨j - 1, by omega⟩
  match l, hne with
  | b :: t, _ => simp
theorem drop_loc {l e : L} {j k : Nat} (hk : k ≤ j) (hl : k ≤ l.length) : (l.take j ++ e).drop k = (l.drop k).take (j - k) ++ e := by
  rw [List.drop_append_of_le_length (by rw [List.length_take]; omega), List.drop_take]
theorem word_loc {e : L} (he : Sep e) : ∀ (n : Nat) (l : L) (j : Nat), l.length ≤ n → ofN wordP l ≤ j → ofN wordP (l.take j ++ e) = ofN wordP l
  | _, [], j, _, _ => by rw [List.take_nil, List.nil_append, sep_word he, ofN_nil]
  | 0, _ :: _, _, h, _ => by simp at h
  | n + 1, b :: t, j, h, hj => by
    have hne : (b :: t) ≠ [] := by simp
    simp only [List.length_cons] at h
    by_cases hk : 0 < ks (b :: t)
    · have hle : ks (b :: t) ≤ (b :: t).length := by
        rcases kinds3 hne with ⟨_, _, _, _, h5⟩ | ⟨h1, _⟩ | ⟨h1, _⟩ <;> omega
      rw [of_word hne, if_pos hk] at hj
      have hj1 : 1 ≤ j := by omega
      rw [of_word (take_ne hne hj1), ks_loc hne hj1 (by omega) he, if_pos hk, of_word hne, if_pos hk, drop_loc (by omega) hle,
        word_loc he n _ _ (by simp only [List.length_drop, List.length_cons]; omega) (by omega)]
    · by_cases hd : isD (b :: t) = true
      · rw [of_word hne, if_neg hk, if_pos hd] at hj
        have hj1 : 1 ≤ j := by omega
        rw [of_word (take_ne hne hj1), ks_loc hne hj1 (by omega) he, if_neg hk, isD_loc hne hj1, if_pos hd, of_word hne, if_neg hk, if_pos hd, drop_loc hj1 (by simp),
          word_loc he n _ _ (by simp only [List.length_drop, List.length_cons]; omega) (by omega)]
      · cases j with
        | zero => rw [List.take_zero, List.nil_append, sep_word he, of_word hne, if_neg hk, if_neg hd]
        | succ j =>
          rw [of_word (take_ne hne (by omega)), ks_loc hne (by omega) (by omega) he, if_neg hk, isD_loc hne (by omega), if_neg hd, of_word hne, if_neg hk, if_neg hd]
theorem digit_loc {e : L} (he : Sep e) : ∀ (n : Nat) (l : L) (j : Nat), l.length ≤ n → ofN digitR l ≤ j → ofN digitR (l.take j ++ e) = ofN digitR l
  | _, [], j, _, _ => by rw [List.take_nil, List.nil_append, sep_digit he, ofN_nil]
  | 0, _ :: _, _, h, _ => by simp at h
  | n + 1, b :: t, j, h, hj => by
    have hne : (b :: t) ≠ [] := by simp
    simp only [List.length_cons] at h
    by_cases hd : isD (b :: t) = true
    · rw [of_digit hne, if_pos hd] at hj
      have hj1 : 1 ≤ j := by omega
      rw [of_digit (take_ne hne hj1), isD_loc hne hj1, if_pos hd, of_digit hne, if_pos hd, drop_loc hj1 (by simp),
        digit_loc he n _ _ (by simp only [List.length_drop, List.length_cons]; omega) (by omega)]
    · cases j with
      | zero => rw [List.take_zero, List.nil_append, sep_digit he, of_digit hne, if_neg hd]
      | succ j => rw [of_digit (take_ne hne (by omega)), isD_loc hne (by omega), if_neg hd, of_digit hne, if_neg hd]
theorem sign2_sep {a : UInt8} {e : L} (h : Sep e) : sign2 (a :: e) = false := by
  rcases h with rfl | ⟨t, rfl | rfl⟩
  · rfl
  · rw [sign2, decide_eq_false_iff_not]; simp
  · rw [sign2, decide_eq_false_iff_not]; simp
theorem sign2_loc {l e : L} {j : Nat} (hne : l ≠ []) (hj : 1 ≤ j) (h2 : sign2 l = true → 2 ≤ j) (he : Sep e) : sign2 (l.take j ++ e) = sign2 l := by
  obtain ⟨i, rfl⟩ : ∃ i, j = i + 1 := ⟨j - 1, by omega⟩
  match l, hne with
  | [a], _ => rw [List.take_succ_cons, List.take_nil, List.cons_append, List.nil_append, sign2_sep he]; rfl
  | a :: b :: t, _ =>
    cases i with
    | zero =>
      rw [show (a :: b :: t).take (0 + 1) ++ e = a :: e from rfl, sign2_sep he]
      cases hs : sign2 (a :: b :: t) with
      | false => rfl
      | true => have := h2 hs; omega
    | succ i => rfl
theorem sign1_loc {l e : L} {j : Nat} (hne : l ≠ []) (hj : 1 ≤ j) : sign1 (l.take j ++ e) = sign1 l := by
  obtain ⟨i, rfl⟩ : ∃ i, j = i + 1 := ⟨j - 1, by omega⟩
  match l, hne with
  | b :: t, _ => rfl
theorem take_loc {l e : L} {j m : Nat} (hm : m ≤ j) (hl : m ≤ l.length) : (l.take j ++ e).take m = l.take m := by
  rw [List.take_append_of_le_length (by rw [List.length_take]; omega), List.take_take, Nat.min_eq_left hm]
/-- The first word hangs on its own bytes alone, if a blank or nothing follows. -/
theorem next_loc {l e : L} {j : Nat} (hne : l ≠ []) (he : Sep e) (h1 : ∀ t, next l = some t → t.m ≤ j) (h2 : next l = none → l.length ≤ j) : next (l.take j ++ e) = next l := by
  have hlen : 1 ≤ l.length := List.length_pos_iff.2 hne
  have hj : 1 ≤ j := by
    cases hn : next l with
    | none => have := h2 hn; omega
    | some t => have := h1 t hn; have := next_pos hn; omega
  by_cases hk : 0 < ks l
  · have hnx : next l = nextName l := by rw [next, if_pos hk]
    have hw : ofN wordP l ≤ j := by
      have hl := ofN_len wordP l
      rw [hnx, nextName] at h1 h2
      split at h1
      · exact h1 _ rfl
      · rename_i hc
        rw [if_neg hc] at h2
        have := h2 rfl
        omega
    have hkw : ks l ≤ ofN wordP l := by rw [of_word hne, if_pos hk]; omega
    have hl := ofN_len wordP l
    rw [hnx, next, ks_loc hne hj (by omega) he, if_pos hk, nextName, nextName, word_loc he _ l j (Nat.le_refl _) hw, take_loc hw hl]
  · by_cases hd : isD l = true
    · have hnx : next l = nextNum l := by rw [next, if_neg hk, if_pos hd]
      have hl := ofN_len digitR l
      have hw : ofN digitR l ≤ j := by
        rw [hnx, nextNum] at h1 h2
        split at h1
        · exact h1 _ rfl
        · rename_i hc
          rw [if_neg hc] at h2
          have := h2 rfl
          omega
      rw [hnx, next, ks_loc hne hj (by omega) he, if_neg hk, isD_loc hne hj, if_pos hd, nextNum, nextNum, digit_loc he _ l j (Nat.le_refl _) hw, take_loc hw hl]
    · have hnx : next l = nextSign l := by rw [next, if_neg hk, if_neg hd]
      have hs : sign2 l = true → 2 ≤ j := fun hs => by
        rw [hnx, nextSign, if_pos hs] at h1
        exact h1 _ rfl
      rw [hnx, next, ks_loc hne hj (by omega) he, if_neg hk, isD_loc hne hj, if_neg hd, nextSign, nextSign, sign2_loc hne hj hs he, sign1_loc hne hj]
end Go.Proofs.YtfammikhejjjcaaDoor.LexSpec
