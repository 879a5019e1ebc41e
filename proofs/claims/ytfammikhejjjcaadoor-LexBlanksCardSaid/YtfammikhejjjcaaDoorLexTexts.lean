/- Words written anew, a remark put in, a text cut at its fault: what is read then, in plain Lean. No condition. -/
import Derived.Test.YtfammikhejjjcaaDoorLexPlaces
namespace Go.Proofs.YtfammikhejjjcaaDoor.LexSpec
set_option linter.unusedVariables false
set_option linter.unusedSimpArgs false
open Go Go.Lib Go.Proofs.YtfammikhejjjcaaDoor.LatSpec Go.Proofs.YtfammikhejjjcaaDoor.Kinds
/-- A word without its place. -/
def core (t : T) : Int × ByteArray × Int := (t.f0, t.f1, t.f2)
/-- A word of some text. -/
def Wd (t : T) : Prop := ∃ (l : L) (tk : Tk) (a : Nat), l ≠ [] ∧ skip1 l = none ∧ next l = some tk ∧ t = mkT tk l a
theorem Run.wd {l l' : L} {a a' : Nat} {pre : List T} (h : Run l a l' a' pre) : ∀ t ∈ pre, Wd t := by
  induction h with
  | nil => intro t ht; cases ht
  | skip hs h ih => exact ih
  | tok hne hs hn h ih =>
    intro t ht
    rw [List.mem_cons] at ht
    rcases ht with rfl | ht
    · exact ⟨_, _, _, hne, hs, hn, rfl⟩
    · exact ih t ht
/-- The words, each with a blank behind it. -/
def joinT : List T → L
  | [] => []
  | t :: ts => t.f1.data.toList ++ 32 :: joinT ts
theorem again_rd : ∀ (ts : List T) (a cnt : Nat), (∀ t ∈ ts, Wd t) → cnt + ts.length ≤ 2000 → ∃ us, rd (joinT ts) a cnt = .ok us ∧ us.map core = ts.map core
  | [], a, cnt, _, _ => ⟨[], rd_nil _ _, rfl⟩
  | t :: ts, a, cnt, hw, hc => by
    obtain ⟨l, tk, a0, hne, hs, hn, rfl⟩ := hw t (by simp)
    simp only [List.length_cons] at hc
    have hp := next_pos hn
    have hsep : Sep (32 :: joinT ts) := .inr ⟨_, .inr rfl⟩
    have hn2 : next (l.take tk.m ++ 32 :: joinT ts) = some tk := by
      rw [next_loc hne hsep (fun u hu => by rw [hn] at hu; injection hu with hu; subst hu; exact Nat.le_refl _) (fun hu => by rw [hn] at hu; cases hu), hn]
    have hj : joinT (mkT tk l a0 :: ts) = l.take tk.m ++ 32 :: joinT ts := by simp [joinT, mkT]
    obtain ⟨us, h1, h2⟩ := again_rd ts (a + tk.m + 1) (cnt + 1) (fun t ht => hw t (by simp [ht])) (by omega)
    refine ⟨mkT tk l a :: us, ?_, ?_⟩
    · rw [hj, rd_tok (take_ne hne hp.1) (skip_no_loc hne hs hp.1) hn2 _ (by omega), drop_loc (Nat.le_refl _) hp.2, Nat.sub_self, List.take_zero, List.nil_append, rd_skip (k := 1) rfl,
        show (32 :: joinT ts).drop 1 = joinT ts from rfl, h1, mkT_loc (take_loc (Nat.le_refl _) hp.2)]
      rfl
    · rw [List.map_cons, List.map_cons, h2]
      rfl
/-- The same steps at other places. -/
theorem Run.shift {l l' : L} {a a' : Nat} {pre : List T} (h : Run l a l' a' pre) : ∀ b, ∃ pre', Run l b l' (b + (a' - a)) pre' ∧ pre'.map core = pre.map core := by
  induction h with
  | nil l a => intro b; exact ⟨[], by rw [Nat.sub_self]; exact .nil _ _, rfl⟩
  | @skip l l' a a' k pre hs h ih =>
    intro b
    obtain ⟨p, h1, h2⟩ := ih (b + k)
    have := h.at_le.1
    rw [show b + k + (a' - (a + k)) = b + (a' - a) by omega] at h1
    exact ⟨p, .skip hs h1, h2⟩
  | @tok l l' a a' t pre hne hs hn h ih =>
    intro b
    obtain ⟨p, h1, h2⟩ := ih (b + t.m)
    have := h.at_le.1
    rw [show b + t.m + (a' - (a + t.m)) = b + (a' - a) by omega] at h1
    refine ⟨mkT t l b :: p, .tok hne hs hn h1, ?_⟩
    rw [List.map_cons, List.map_cons, h2]
    rfl
/-- The steps up to a word, and from it on. -/
theorem Run.split {l l' : L} {a a' : Nat} {ts : List T} (h : Run l a l' a' ts) : ∀ i, i < ts.length → ∃ l2 pre post, ts = pre ++ post ∧ Run l a l2 (ts.getD i z0).f3.toNat pre ∧ Run l2 (ts.getD i z0).f3.toNat l' a' post := by
  induction h with
  | nil => intro i hi; simp at hi
  | skip hs h ih =>
    intro i hi
    obtain ⟨l2, pre, post, h1, h2, h3⟩ := ih i hi
    exact ⟨l2, pre, post, h1, .skip hs h2, h3⟩
  | @tok l l' a a' t pre hne hs hn h ih =>
    intro i hi
    cases i with
    | zero =>
      have e : ((mkT t l a :: pre).getD 0 z0).f3.toNat = a := by simp [mkT]
      rw [e]
      exact ⟨l, [], _, rfl, .nil _ _, .tok hne hs hn h⟩
    | succ i =>
      obtain ⟨l2, p, q, h1, h2, h3⟩ := ih i (by simpa using hi)
      have e : (mkT t l a :: pre).getD (i + 1) z0 = pre.getD i z0 := by simp
      rw [e]
      exact ⟨l2, mkT t l a :: p, q, by rw [h1]; rfl, .tok hne hs hn h2, h3⟩
/-- What the law puts in: a line's end, a remark, a line's end and a tabulator. -/
def rem (r : L) (x : L) : L := 10 :: 35 :: (r ++ 10 :: 9 :: x)
theorem tw_rem (x : L) : ∀ r : L, (∀ b ∈ r, b ≠ 10) → (r ++ 10 :: x).takeWhile (· ≠ 10) = r
  | [], _ => by rw [List.nil_append, List.takeWhile_cons_of_neg (by decide)]
  | b :: r, h => by rw [List.cons_append, List.takeWhile_cons_of_pos (by simpa using h b (by simp)), tw_rem x r (fun c hc => h c (by simp [hc]))]
theorem rem_run (r x : L) (a : Nat) (hr : ∀ b ∈ r, b ≠ 10) : Run (rem r x) a x (a + 1 + (1 + r.length) + 1 + 1) [] := by
  refine .skip (k := 1) rfl ?_
  rw [rem, show (10 :: 35 :: (r ++ 10 :: 9 :: x)).drop 1 = 35 :: (r ++ 10 :: 9 :: x) from rfl]
  refine .skip (k := 1 + r.length) ?_ ?_
  · rw [skip1, if_neg (by decide), if_pos rfl, tw_rem _ r hr]
  rw [Nat.add_comm 1 r.length, List.drop_succ_cons, List.drop_left]
  refine .skip (k := 1) rfl ?_
  rw [show (10 :: 9 :: x).drop 1 = 9 :: x from rfl]
  refine .skip (k := 1) rfl ?_
  rw [show (9 :: x).drop 1 = x from rfl]
  exact .nil _ _
theorem blanks_rd {s : L} {ts : List T} {r : L} {p : Nat} (h : rd s 0 0 = .ok ts) (hr : ∀ b ∈ r, b ≠ 10) (hp : p = s.length ∨ ∃ i, i < ts.length ∧ p = (ts.getD i z0).f3.toNat) :
    p ≤ s.length ∧ ∃ us, rd (s.take p ++ rem r (s.drop p)) 0 0 = .ok us ∧ us.map core = ts.map core := by
  obtain ⟨hR, hc⟩ := rd_run s.length s 0 0 (Nat.le_refl _) ts h
  have hc := hc (by omega)
  rw [Nat.zero_add] at hR hc
  obtain ⟨l2, pre, post, e, h1, h2⟩ : ∃ l2 pre post, ts = pre ++ post ∧ Run s 0 l2 p pre ∧ Run l2 p [] s.length post := by
    rcases hp with rfl | ⟨i, hi, rfl⟩
    · exact ⟨[], ts, [], by simp, hR, .nil _ _⟩
    · exact hR.split i hi
  obtain ⟨_, q2, q3⟩ := h1.at_le
  rw [Nat.sub_zero] at q2 q3
  refine ⟨q2, ?_⟩
  have c1 := h1.cut (e := rem r (s.drop p)) (.inr ⟨_, rfl⟩)
  rw [Nat.sub_zero] at c1
  have c2 := rem_run r (s.drop p) p hr
  subst q3
  obtain ⟨post2, c3, c4⟩ := h2.shift (p + 1 + (1 + r.length) + 1 + 1)
  have c5 := (c1.trans c2).trans c3
  have hl : (pre ++ [] ++ post2).length = ts.length := by
    have := congrArg List.length c4
    rw [List.length_map, List.length_map] at this
    rw [e]
    simp [this]
  have c6 := c5.rd 0 (by rw [hl]; omega)
  refine ⟨pre ++ [] ++ post2, ?_, ?_⟩
  · rw [c6, rd_nil]
    simp [appR]
  · rw [e]
    simp [c4]
theorem fault_rd {s : L} {p : Nat} (h : rd s 0 0 = .error (p, 2)) : p ≤ s.length ∧ (∃ us, rd (s.take p) 0 0 = .ok us) ∧ ∀ more, rd (s ++ 10 :: more) 0 0 = .error (p, 2) := by
  obtain ⟨l', pre, h1, h2, h3, h4, h5⟩ := rd_fault s.length s 0 0 (Nat.le_refl _) (by omega) p 2 h
  have h6 : next l' = none := by
    rcases h5 with ⟨_, h5⟩ | h5
    · exact h5
    · cases h5
  obtain ⟨_, q2, _⟩ := h1.at_le
  rw [Nat.sub_zero] at q2
  refine ⟨q2, ⟨pre, ?_⟩, fun more => ?_⟩
  · have c1 := (h1.cut (e := []) (.inl rfl)).rd 0 h2
    rw [Nat.sub_zero, List.append_nil, rd_nil] at c1
    rw [c1]
    simp [appR]
  · have c1 := (h1.ext (e := 10 :: more) (.inr ⟨_, rfl⟩)).rd 0 h2
    rw [c1, rd_bad (by simp) (skip_ext h3 h4) (next_ext h3 (.inr ⟨_, rfl⟩) h6)]
    rfl
end Go.Proofs.YtfammikhejjjcaaDoor.LexSpec
