/- What cutting and lengthening a text changes of its words, and that what lies between words is blanks and remarks, in plain Lean. No condition. -/
import Derived.Test.YtfammikhejjjcaaDoorLexRun
namespace Go.Proofs.YtfammikhejjjcaaDoor.LexSpec
set_option linter.unusedVariables false
set_option linter.unusedSimpArgs false
open Go Go.Lib Go.Proofs.YtfammikhejjjcaaDoor.LatSpec Go.Proofs.YtfammikhejjjcaaDoor.Kinds
/-- Nothing, or a line's end. -/
def Nl (e : L) : Prop := e = [] ∨ ∃ t, e = 10 :: t
theorem Nl.sep {e : L} (h : Nl e) : Sep e := by
  rcases h with h | ⟨t, h⟩
  · exact .inl h
  · exact .inr ⟨t, .inl h⟩
theorem nl_tw {e : L} (h : Nl e) : e.takeWhile (· ≠ 10) = [] := by
  rcases h with rfl | ⟨t, rfl⟩
  · rfl
  · rw [List.takeWhile_cons_of_neg (by decide)]
theorem tw_loc {e : L} (he : Nl e) : ∀ (t : L) (i : Nat), (t.takeWhile (· ≠ 10)).length ≤ i → ((t.take i ++ e).takeWhile (· ≠ 10)).length = (t.takeWhile (· ≠ 10)).length
  | [], i, _ => by rw [List.take_nil, List.nil_append, nl_tw he]; rfl
  | c :: t, i, h => by
    by_cases hc : c = 10
    · subst hc
      cases i with
      | zero => rw [List.take_zero, List.nil_append, nl_tw he, List.takeWhile_cons_of_neg (by decide)]
      | succ i => rw [List.take_succ_cons, List.cons_append, List.takeWhile_cons_of_neg (by decide), List.takeWhile_cons_of_neg (by decide)]
    · rw [List.takeWhile_cons_of_pos (by simpa using hc), List.length_cons] at h
      cases i with
      | zero => omega
      | succ i =>
        rw [List.take_succ_cons, List.cons_append, List.takeWhile_cons_of_pos (by simpa using hc), List.takeWhile_cons_of_pos (by simpa using hc), List.length_cons, List.length_cons, tw_loc he t i (by omega)]
theorem skip_loc {l e : L} {j k : Nat} (he : Nl e) (hs : skip1 l = some k) (hj : k ≤ j) : skip1 (l.take j ++ e) = some k := by
  have hp := skip_pos hs
  obtain ⟨i, rfl⟩ : ∃ i, j = i + 1 := ⟨j - 1, by omega⟩
  match l, hs with
  | b :: t, hs =>
    rw [List.take_succ_cons, List.cons_append]
    rw [skip1] at hs ⊢
    split
    · rename_i h; rw [if_pos h] at hs; exact hs
    · rename_i h
      rw [if_neg h] at hs
      split
      · rename_i h2
        rw [if_pos h2] at hs
        injection hs with hs
        rw [tw_loc he t i (by omega), hs]
      · rename_i h2; rw [if_neg h2] at hs; cases hs
theorem skip_no_loc {l e : L} {j : Nat} (hne : l ≠ []) (hs : skip1 l = none) (hj : 1 ≤ j) : skip1 (l.take j ++ e) = none := by
  obtain ⟨i, rfl⟩ : ∃ i, j = i + 1 := ⟨j - 1, by omega⟩
  match l, hne, hs with
  | b :: t, _, hs =>
    rw [List.take_succ_cons, List.cons_append]
    rw [skip1] at hs ⊢
    split
    · rename_i h; rw [if_pos h] at hs; cases hs
    · rename_i h
      rw [if_neg h] at hs
      split
      · rename_i h2; rw [if_pos h2] at hs; cases hs
      · rfl
theorem mkT_loc {l l2 : L} {t : Tk} {a : Nat} (h : l2.take t.m = l.take t.m) : mkT t l2 a = mkT t l a := by rw [mkT, mkT, h]
/-- A text cut at a place that is come to, and something put behind it. -/
theorem Run.cut {l l' : L} {a a' : Nat} {pre : List T} (h : Run l a l' a' pre) {e : L} (he : Nl e) : Run (l.take (a' - a) ++ e) a e a' pre := by
  induction h with
  | nil l a =>
    rw [Nat.sub_self, List.take_zero, List.nil_append]
    exact .nil _ _
  | @skip l l' a a' k pre hs h ih =>
    have h1 := h.at_le.1
    have hp := skip_pos hs
    refine .skip (skip_loc he hs (by omega)) ?_
    rw [drop_loc (by omega) hp.2, show a' - a - k = a' - (a + k) by omega]
    exact ih
  | @tok l l' a a' t pre hne hs hn h ih =>
    have h1 := h.at_le.1
    have hp := next_pos hn
    have hn2 : next (l.take (a' - a) ++ e) = some t := by
      rw [next_loc hne he.sep (fun u hu => by rw [hn] at hu; injection hu with hu; subst hu; omega) (fun hu => by rw [hn] at hu; cases hu), hn]
    rw [← mkT_loc (l2 := l.take (a' - a) ++ e) (take_loc (by omega) hp.2)]
    refine .tok (take_ne hne (by omega)) (skip_no_loc hne hs (by omega)) hn2 ?_
    rw [drop_loc (by omega) hp.2, show a' - a - t.m = a' - (a + t.m) by omega]
    exact ih
/-- A text with a line's end and more behind it. -/
theorem Run.ext {l l' : L} {a a' : Nat} {pre : List T} (h : Run l a l' a' pre) {e : L} (he : Nl e) : Run (l ++ e) a (l' ++ e) a' pre := by
  induction h with
  | nil l a => exact .nil _ _
  | @skip l l' a a' k pre hs h ih =>
    have hp := skip_pos hs
    have h1 := skip_loc he hs hp.2
    rw [List.take_length] at h1
    refine .skip h1 ?_
    rw [List.drop_append_of_le_length hp.2]
    exact ih
  | @tok l l' a a' t pre hne hs hn h ih =>
    have hp := next_pos hn
    have hn2 := next_loc (j := l.length) hne he.sep (fun u hu => by rw [hn] at hu; injection hu with hu; subst hu; exact hp.2) (fun hu => by rw [hn] at hu; cases hu)
    have hs2 := skip_no_loc (e := e) (j := l.length) hne hs (List.length_pos_iff.2 hne)
    have ht := take_loc (e := e) (j := l.length) hp.2 hp.2
    rw [List.take_length] at hn2 hs2 ht
    rw [← mkT_loc (l2 := l ++ e) ht]
    refine .tok (by simp [hne]) hs2 (hn2.trans hn) ?_
    rw [List.drop_append_of_le_length hp.2]
    exact ih
theorem next_ext {l e : L} (hne : l ≠ []) (he : Nl e) (hn : next l = none) : next (l ++ e) = none := by
  have h := next_loc (j := l.length) hne he.sep (fun u hu => by rw [hn] at hu; cases hu) (fun _ => Nat.le_refl _)
  rw [List.take_length] at h
  rw [h, hn]
theorem skip_ext {l e : L} (hne : l ≠ []) (hs : skip1 l = none) : skip1 (l ++ e) = none := by
  have h := skip_no_loc (e := e) (j := l.length) hne hs (List.length_pos_iff.2 hne)
  rwa [List.take_length] at h
/-- Blanks and remarks alone? -/
def emp : Bool → L → Bool
  | _, [] => true
  | r, b :: t => if b = 10 then emp false t else if b = 35 then emp true t else if !r && b ≠ 32 && b ≠ 9 then false else emp r t
theorem emp_true (x : L) : ∀ tw : L, (∀ b ∈ tw, b ≠ 10) → emp true (tw ++ x) = emp true x
  | [], _ => rfl
  | b :: t, h => by
    rw [List.cons_append, emp, if_neg (h b (by simp))]
    split
    · exact emp_true x t (fun c hc => h c (by simp [hc]))
    · simp only [Bool.not_true, Bool.false_and, Bool.false_eq_true, if_false]
      exact emp_true x t (fun c hc => h c (by simp [hc]))
theorem emp_nl {x : L} (h : Nl x) : emp true x = emp false x := by
  rcases h with rfl | ⟨t, rfl⟩ <;> rfl
theorem drop_tw (t : L) : Nl (t.drop (t.takeWhile (· ≠ 10)).length) := by
  induction t with
  | nil => exact .inl rfl
  | cons c t ih =>
    by_cases hc : c = 10
    · subst hc
      rw [List.takeWhile_cons_of_neg (by decide)]
      exact .inr ⟨t, rfl⟩
    · rw [List.takeWhile_cons_of_pos (by simpa using hc), List.length_cons, List.drop_succ_cons]
      exact ih
theorem tw_all : ∀ (t : L), ∀ b ∈ t.takeWhile (· ≠ 10), b ≠ 10
  | [], b, h => by simp at h
  | c :: t, b, h => by
    by_cases hc : c = 10
    · subst hc
      rw [List.takeWhile_cons_of_neg (by decide)] at h
      cases h
    · rw [List.takeWhile_cons_of_pos (by simpa using hc), List.mem_cons] at h
      rcases h with rfl | h
      · exact hc
      · exact tw_all t b h
theorem Nl.take {x : L} (h : Nl x) (j : Nat) : Nl (x.take j) := by
  rcases h with rfl | ⟨t, rfl⟩
  · left; simp
  · cases j with
    | zero => left; rfl
    | succ j => right; exact ⟨t.take j, rfl⟩
/-- What lies between two words is blanks and remarks. -/
theorem Run.emp {l l' : L} {a a' : Nat} {pre : List T} (h : Run l a l' a' pre) (hp : pre = []) : LexSpec.emp false (l.take (a' - a)) = true := by
  induction h with
  | nil l a => rw [Nat.sub_self]; rfl
  | @skip l l' a a' k pre hs h ih =>
    have h1 := h.at_le.1
    have hk := skip_pos hs
    have hi := ih hp
    rw [show a' - a = k + (a' - (a + k)) by omega, List.take_add]
    generalize hx : (l.drop k).take (a' - (a + k)) = x at hi ⊢
    match l, hs with
    | b :: t, hs =>
      rw [skip1] at hs
      split at hs
      · rename_i hb
        injection hs with hs
        subst hs
        rw [show (b :: t).take 1 ++ x = b :: x from rfl, LexSpec.emp]
        rcases hb with rfl | rfl | rfl <;> simpa using hi
      · split at hs
        · rename_i hb
          injection hs with hs
          subst hb
          have hnl : Nl x := by
            rw [← hx, ← hs, Nat.add_comm 1, List.drop_succ_cons]
            exact (drop_tw t).take _
          rw [← hs, Nat.add_comm 1, List.take_succ_cons, List.cons_append, LexSpec.emp, if_neg (by decide), if_pos rfl]
          have htw : t.take (t.takeWhile (· ≠ 10)).length = t.takeWhile (· ≠ 10) := List.prefix_iff_eq_take.1 (List.takeWhile_prefix _) |>.symm
          rw [htw, emp_true x _ (tw_all t), emp_nl hnl]
          exact hi
        · cases hs
  | tok => cases hp
end Go.Proofs.YtfammikhejjjcaaDoor.LexSpec
