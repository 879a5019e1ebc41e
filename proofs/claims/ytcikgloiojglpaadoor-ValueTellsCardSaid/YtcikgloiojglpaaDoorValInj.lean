/- Two formed values have one text just if they are the same, in plain words. No program is in sight. No condition. -/
import Derived.Test.YtcikgloiojglpaaDoorVal6
namespace Go.Proofs.YtcikgloiojglpaaDoor.Val
set_option linter.unusedVariables false
open Go Go.Proofs.YtcikgloiojglpaaDoor.Kinds Go.Proofs.YtcikgloiojglpaaDoor.ValSpec
/-! ### digits -/
def isD (b : UInt8) : Prop := 48 ≤ b.toNat ∧ b.toNat ≤ 57
theorem dec_all (u : Nat) : ∀ b ∈ Lib.decDigits u, isD b := by
  induction u using Nat.strongRecOn with
  | _ u ih =>
    intro b hb
    have hd : ∀ m, m < 10 → isD (UInt8.ofNat (48 + m)) := fun m hm => by
      unfold isD
      rw [UInt8.toNat_ofNat']
      omega
    by_cases h : u < 10
    · rw [Lib.decDigits_one h, List.mem_singleton] at hb
      rw [hb]
      exact hd u h
    · rw [Lib.decDigits, dif_neg h] at hb
      rcases List.mem_append.1 hb with hb | hb
      · exact ih (u / 10) (by omega) b hb
      · rw [List.mem_singleton.1 hb]
        exact hd (u % 10) (by omega)
def valD (l : List UInt8) : Nat := l.foldl (fun a b => 10 * a + (b.toNat - 48)) 0
theorem val_dec (u : Nat) : valD (Lib.decDigits u) = u := by
  induction u using Nat.strongRecOn with
  | _ u ih =>
    by_cases h : u < 10
    · rw [Lib.decDigits_one h]
      simp only [valD, List.foldl_cons, List.foldl_nil, UInt8.toNat_ofNat']
      omega
    · rw [Lib.decDigits, dif_neg h]
      have := ih (u / 10) (by omega)
      unfold valD at this ⊢
      rw [List.foldl_append, this]
      simp only [List.foldl_cons, List.foldl_nil, UInt8.toNat_ofNat']
      omega
theorem dec_inj {u v : Nat} (h : Lib.decDigits u = Lib.decDigits v) : u = v := by rw [← val_dec u, h, val_dec]
theorem dec_ne (u : Nat) : ∃ b t, Lib.decDigits u = b :: t ∧ isD b := by
  have h := dec_all u
  have hp := Lib.nDigits_pos u
  rw [← Lib.decDigits_length] at hp
  match hl : Lib.decDigits u, hp with
  | b :: t, _ => exact ⟨b, t, rfl, h b (by rw [hl]; exact List.mem_cons_self)⟩
/-- What does not begin with a digit. -/
def NonD (r : List UInt8) : Prop := ∀ b t, r = b :: t → ¬ isD b
theorem split_all : ∀ (xs ys r r' : List UInt8), (∀ b ∈ xs, isD b) → (∀ b ∈ ys, isD b) → NonD r → NonD r' → xs ++ r = ys ++ r' → xs = ys ∧ r = r'
  | [], [], r, r', _, _, _, _, h => ⟨rfl, h⟩
  | [], y :: ys, r, r', _, hy, hr, _, h => absurd (hy y List.mem_cons_self) (hr y (ys ++ r') h)
  | x :: xs, [], r, r', hx, _, _, hr, h => absurd (hx x List.mem_cons_self) (hr x (xs ++ r) h.symm)
  | x :: xs, y :: ys, r, r', hx, hy, hr, hr', h => by
    simp only [List.cons_append, List.cons.injEq] at h
    obtain ⟨h1, h2⟩ := split_all xs ys r r' (fun b hb => hx b (List.mem_cons_of_mem _ hb)) (fun b hb => hy b (List.mem_cons_of_mem _ hb)) hr hr' h.2
    exact ⟨by rw [h.1, h1], h2⟩
theorem num_split {n m : Int} {r r' : List UInt8} (hr : NonD r) (hr' : NonD r') (h : Lib.itoa n ++ r = Lib.itoa m ++ r') : n = m ∧ r = r' := by
  unfold Lib.itoa at h
  by_cases hn : n < 0 <;> by_cases hm : m < 0
  · rw [if_pos hn, if_pos hm] at h
    simp only [List.cons_append, List.cons.injEq, true_and] at h
    obtain ⟨h1, h2⟩ := split_all _ _ _ _ (dec_all _) (dec_all _) hr hr' h
    have := dec_inj h1
    exact ⟨by omega, h2⟩
  · rw [if_pos hn, if_neg hm] at h
    obtain ⟨b, t, e, hb⟩ := dec_ne m.toNat
    rw [e] at h
    simp only [List.cons_append, List.cons.injEq] at h
    rw [← h.1] at hb
    exact absurd hb (by unfold isD; decide)
  · rw [if_neg hn, if_pos hm] at h
    obtain ⟨b, t, e, hb⟩ := dec_ne n.toNat
    rw [e] at h
    simp only [List.cons_append, List.cons.injEq] at h
    rw [h.1] at hb
    exact absurd hb (by unfold isD; decide)
  · rw [if_neg hn, if_neg hm] at h
    obtain ⟨h1, h2⟩ := split_all _ _ _ _ (dec_all _) (dec_all _) hr hr' h
    have := dec_inj h1
    exact ⟨by omega, h2⟩
theorem itoa_head (n : Int) : ∃ b t, Lib.itoa n = b :: t ∧ (b = 45 ∨ isD b) := by
  unfold Lib.itoa
  by_cases hn : n < 0
  · rw [if_pos hn]; exact ⟨_, _, rfl, .inl rfl⟩
  · rw [if_neg hn]
    obtain ⟨b, t, e, hb⟩ := dec_ne n.toNat
    exact ⟨b, t, e, .inr hb⟩
/-! ### what may follow a value -/
def Del (r : List UInt8) : Prop := r = [] ∨ ∃ t, r = 44 :: t ∨ r = 41 :: t ∨ r = 93 :: t
theorem Del.nonD {r : List UInt8} (h : Del r) : NonD r := by
  intro b t e hb
  rcases h with rfl | ⟨t', rfl | rfl | rfl⟩
  · cases e
  all_goals
    injection e with e1 e2
    rw [← e1] at hb
    revert hb
    unfold isD
    decide
theorem Del.no32 {r t : List UInt8} (h : Del r) : r ≠ 32 :: t := by
  rcases h with rfl | ⟨t', rfl | rfl | rfl⟩
  · simp
  all_goals
    intro e
    injection e with e1 e2
    revert e1
    decide
theorem nonD_32 (t : List UInt8) : NonD (32 :: t) := fun b t' e hb => by
  injection e with e1 e2
  rw [← e1] at hb
  revert hb
  unfold isD
  decide
/-! ### the kinds -/
theorem head_cases {k n : Int} {m : Nat} (h : headB k n m = true) : (k = 1 ∧ m = 0) ∨ (k = 2 ∧ m = 0 ∧ (n = 0 ∨ n = 1)) ∨ (k = 3 ∧ m = 2 ∧ n = 0) ∨ (k = 4 ∧ 0 ≤ n ∧ n < 60) ∨ (k = 5 ∧ m = 0 ∧ 0 ≤ n ∧ n ≤ 2147483647) := by
  unfold headB at h
  by_cases k1 : k = 1
  · rw [if_pos k1] at h; simp at h; exact .inl ⟨k1, h⟩
  by_cases k2 : k = 2
  · rw [if_neg k1, if_pos k2] at h; simp at h; exact .inr (.inl ⟨k2, h⟩)
  by_cases k3 : k = 3
  · rw [if_neg k1, if_neg k2, if_pos k3] at h; simp at h; exact .inr (.inr (.inl ⟨k3, h⟩))
  by_cases k4 : k = 4
  · rw [if_neg k1, if_neg k2, if_neg k3, if_pos k4] at h; simp at h; exact .inr (.inr (.inr (.inl ⟨k4, h⟩)))
  by_cases k5 : k = 5
  · rw [if_neg k1, if_neg k2, if_neg k3, if_neg k4, if_pos k5] at h; simp at h; exact .inr (.inr (.inr (.inr ⟨k5, h⟩)))
  rw [if_neg k1, if_neg k2, if_neg k3, if_neg k4, if_neg k5] at h
  cases h
/-- The kind, told by two bytes. -/
def code (l : List UInt8) : Int := if l.getD 0 0 = 40 then 3 else if l.getD 0 0 = 114 then 5 else if l.getD 0 0 = 116 then 2 else if l.getD 0 0 = 102 then (if l.getD 1 0 = 97 then 2 else 4) else 1
theorem code_text {v : V} (hs : sound v = true) (r : List UInt8) : code (text v ++ r) = v.f0 := by
  rw [text_eq]
  rcases head_cases (sound_head hs) with ⟨k, _⟩ | ⟨k, _, hn | hn⟩ | ⟨k, _, hn⟩ | ⟨k, _, _⟩ | ⟨k, _, _, _⟩
  · rw [k]
    obtain ⟨b, t, e, hb⟩ := itoa_head v.f1
    have e2 : textOf 1 v.f1 (v.f2.map text) = b :: t := by simp [textOf, e]
    rw [e2]
    have hb2 : b ≠ 40 ∧ b ≠ 114 ∧ b ≠ 116 ∧ b ≠ 102 := by
      rcases hb with rfl | hb
      · decide
      · refine ⟨?_, ?_, ?_, ?_⟩ <;> (rintro rfl; revert hb; unfold isD; decide)
    simp [code, hb2.1, hb2.2.1, hb2.2.2.1, hb2.2.2.2]
  · rw [k, hn]; rfl
  · rw [k, hn]; rfl
  · rw [k, hn]; simp [textOf, code]
  · rw [k]
    by_cases hp : v.f2.map text = []
    · simp [textOf, hp, tFun, code]
    · simp [textOf, hp, tFun, code]
  · rw [k]; simp [textOf, tRef, code]
/-! ### one text, one value -/
def tl (ps : List V) : List UInt8 := Lib.joinTail [44, 32] (ps.map text)
theorem tl_nil : tl [] = [] := rfl
theorem tl_cons (p : V) (ps : List V) : tl (p :: ps) = 44 :: 32 :: (text p ++ tl ps) := by simp [tl, Lib.joinTail]
theorem joinT_cons (p : V) (ps : List V) : joinT ((p :: ps).map text) = text p ++ tl ps := by rw [List.map_cons, joinT, Lib.join_cons]; rfl
/-- One text, one value, up to a size. -/
def Inj (k : Nat) : Prop := ∀ (v u : V) (r r' : List UInt8), size v ≤ k → sound v = true → sound u = true → Del r → Del r' → text v ++ r = text u ++ r' → v = u ∧ r = r'
theorem del_tl {c : UInt8} (hc : c = 41 ∨ c = 93) (ps : List V) (r : List UInt8) : Del (tl ps ++ c :: r) := by
  cases ps with
  | nil => rcases hc with rfl | rfl
           · exact .inr ⟨r, .inr (.inl rfl)⟩
           · exact .inr ⟨r, .inr (.inr rfl)⟩
  | cons p ps => rw [tl_cons]; exact .inr ⟨_, .inl rfl⟩
theorem tl_inj {k : Nat} (IH : Inj k) {c : UInt8} (hc : c = 41 ∨ c = 93) : ∀ (ps qs : List V) (r r' : List UInt8), sizes ps ≤ k → (∀ p ∈ ps, sound p = true) → (∀ q ∈ qs, sound q = true) → tl ps ++ c :: r = tl qs ++ c :: r' → ps = qs ∧ r = r'
  | [], [], r, r', _, _, _, h => by
    simp only [tl_nil, List.nil_append, List.cons.injEq, true_and] at h
    exact ⟨rfl, h⟩
  | [], q :: qs, r, r', _, _, _, h => by
    rw [tl_nil, tl_cons, List.nil_append, List.cons_append, List.cons.injEq] at h
    rcases hc with rfl | rfl
    · exact absurd h.1 (by decide)
    · exact absurd h.1 (by decide)
  | p :: ps, [], r, r', _, _, _, h => by
    rw [tl_nil, tl_cons, List.nil_append, List.cons_append, List.cons.injEq] at h
    rcases hc with rfl | rfl
    · exact absurd h.1 (by decide)
    · exact absurd h.1 (by decide)
  | p :: ps, q :: qs, r, r', hk, hp, hq, h => by
    rw [tl_cons, tl_cons] at h
    simp only [List.cons_append, List.append_assoc, List.cons.injEq, true_and] at h
    rw [sizes] at hk
    obtain ⟨h1, h2⟩ := IH p q _ _ (by omega) (hp p List.mem_cons_self) (hq q List.mem_cons_self) (del_tl hc ps r) (del_tl hc qs r') h
    obtain ⟨h3, h4⟩ := tl_inj IH hc ps qs r r' (by omega) (fun x hx => hp x (List.mem_cons_of_mem _ hx)) (fun x hx => hq x (List.mem_cons_of_mem _ hx)) h2
    exact ⟨by rw [h1, h3], h4⟩
theorem head_del {q : V} (hq : sound q = true) {c : UInt8} (hc : c = 41 ∨ c = 93) {a b : List UInt8} : c :: a ≠ text q ++ b := by
  intro h
  have hcode := code_text hq b
  rw [← h] at hcode
  have h1 : q.f0 = 1 := by
    rw [← hcode]
    rcases hc with rfl | rfl <;> rfl
  rw [text_eq, h1] at h
  obtain ⟨d, t, e, hd⟩ := itoa_head q.f1
  have e2 : textOf 1 q.f1 (q.f2.map text) = d :: t := by simp [textOf, e]
  rw [e2, List.cons_append, List.cons.injEq] at h
  rw [← h.1] at hd
  rcases hc with rfl | rfl
  · rcases hd with hd | hd
    · exact absurd hd (by decide)
    · revert hd; unfold isD; decide
  · rcases hd with hd | hd
    · exact absurd hd (by decide)
    · revert hd; unfold isD; decide
theorem joins_inj {k : Nat} (IH : Inj k) {c : UInt8} (hc : c = 41 ∨ c = 93) (ps qs : List V) (r r' : List UInt8) (hk : sizes ps ≤ k) (hp : ∀ p ∈ ps, sound p = true) (hq : ∀ q ∈ qs, sound q = true) (h : joinT (ps.map text) ++ c :: r = joinT (qs.map text) ++ c :: r') : ps = qs ∧ r = r' := by
  cases ps with
  | nil =>
    cases qs with
    | nil =>
      simp only [List.cons.injEq, true_and, List.append_cancel_left_eq] at h
      exact ⟨rfl, h⟩
    | cons q qs =>
      rw [joinT_cons, List.append_assoc] at h
      exact absurd h (head_del (hq q List.mem_cons_self) hc)
  | cons p ps =>
    cases qs with
    | nil =>
      rw [joinT_cons, List.append_assoc] at h
      exact absurd h.symm (head_del (hp p List.mem_cons_self) hc)
    | cons q qs =>
      rw [joinT_cons, joinT_cons, List.append_assoc, List.append_assoc] at h
      rw [sizes] at hk
      obtain ⟨h1, h2⟩ := IH p q _ _ (by omega) (hp p List.mem_cons_self) (hq q List.mem_cons_self) (del_tl hc ps r) (del_tl hc qs r') h
      obtain ⟨h3, h4⟩ := tl_inj IH hc ps qs r r' (by omega) (fun x hx => hp x (List.mem_cons_of_mem _ hx)) (fun x hx => hq x (List.mem_cons_of_mem _ hx)) h2
      exact ⟨by rw [h1, h3], h4⟩
theorem nil_of {ps : List V} (h : ps.length = 0) : ps = [] := List.eq_nil_of_length_eq_zero h
theorem inj_k : ∀ k, Inj k := by
  intro k
  induction k with
  | zero => intro v u r r' hk; have := size_pos v; omega
  | succ k IH =>
    intro v u r r' hk hv hu hr hr' h
    have hf0 : v.f0 = u.f0 := by rw [← code_text hv r, h, code_text hu]
    have hsz : sizes v.f2 ≤ k := by have := size_eq v; omega
    have hvp := fun p (hp : p ∈ v.f2) => sound_part hv hp
    have hup := fun p (hp : p ∈ u.f2) => sound_part hu hp
    rw [text_eq, text_eq, ← hf0] at h
    have hcu := head_cases (sound_head hu)
    rw [← hf0] at hcu
    rcases head_cases (sound_head hv) with ⟨k0, h2⟩ | ⟨k0, h2, hn⟩ | ⟨k0, h2, hn⟩ | ⟨k0, hn, hn2⟩ | ⟨k0, h2, hn, hn2⟩
    · rw [k0] at hcu h
      rcases hcu with ⟨_, g2⟩ | ⟨h, _⟩ | ⟨h, _⟩ | ⟨h, _⟩ | ⟨h, _⟩
      · have e : ∀ n parts, textOf 1 n parts = Lib.itoa n := fun n parts => by simp [textOf]
        rw [e, e] at h
        obtain ⟨h3, h4⟩ := num_split hr.nonD hr'.nonD h
        exact ⟨V_ext hf0 h3 (by rw [nil_of h2, nil_of g2]), h4⟩
      all_goals omega
    · rw [k0] at hcu h
      rcases hcu with ⟨h, _⟩ | ⟨_, g2, gn⟩ | ⟨h, _⟩ | ⟨h, _⟩ | ⟨h, _⟩
      · omega
      · have e0 : ∀ parts, textOf 2 0 parts = tFalse := fun parts => by simp [textOf]
        have e1 : ∀ parts, textOf 2 1 parts = tTrue := fun parts => by simp [textOf]
        rcases hn with hn | hn <;> rcases gn with gn | gn
        · rw [hn, gn, e0, e0, List.append_cancel_left_eq] at h
          exact ⟨V_ext hf0 (by rw [hn, gn]) (by rw [nil_of h2, nil_of g2]), h⟩
        · rw [hn, gn, e0, e1] at h
          simp [tTrue, tFalse] at h
        · rw [hn, gn, e0, e1] at h
          simp [tTrue, tFalse] at h
        · rw [hn, gn, e1, e1, List.append_cancel_left_eq] at h
          exact ⟨V_ext hf0 (by rw [hn, gn]) (by rw [nil_of h2, nil_of g2]), h⟩
      all_goals omega
    · rw [k0] at hcu h
      rcases hcu with ⟨h, _⟩ | ⟨h, _⟩ | ⟨_, g2, gn⟩ | ⟨h, _⟩ | ⟨h, _⟩
      · omega
      · omega
      · have e : ∀ n parts, textOf 3 n parts = 40 :: (joinT parts ++ [41]) := fun n parts => by simp [textOf]
        rw [e, e] at h
        simp only [List.cons_append, List.cons.injEq, true_and, List.append_assoc, List.nil_append] at h
        obtain ⟨h3, h4⟩ := joins_inj IH (.inl rfl) v.f2 u.f2 r r' hsz hvp hup h
        exact ⟨V_ext hf0 (by rw [hn, gn]) h3, h4⟩
      all_goals omega
    · rw [k0] at hcu h
      rcases hcu with ⟨h, _⟩ | ⟨h, _⟩ | ⟨h, _⟩ | ⟨_, gn, gn2⟩ | ⟨h, _⟩
      · omega
      · omega
      · omega
      · have e0 : ∀ n, textOf 4 n [] = tFun ++ Lib.itoa n := fun n => by simp [textOf]
        have e1 : ∀ n (parts : List (List UInt8)), parts ≠ [] → textOf 4 n parts = tFun ++ (Lib.itoa n ++ (32 :: 91 :: (joinT parts ++ [93]))) := fun n parts hp => by simp [textOf, hp]
        by_cases hp : v.f2 = [] <;> by_cases hq : u.f2 = []
        · rw [hp, hq, List.map_nil, e0, e0, List.append_assoc, List.append_assoc, List.append_cancel_left_eq] at h
          obtain ⟨h3, h4⟩ := num_split hr.nonD hr'.nonD h
          exact ⟨V_ext hf0 h3 (by rw [hp, hq]), h4⟩
        · rw [hp, List.map_nil, e0, e1 _ _ (by simpa using hq), List.append_assoc, List.append_assoc, List.append_cancel_left_eq, List.append_assoc] at h
          obtain ⟨h3, h4⟩ := num_split hr.nonD (nonD_32 _) h
          exact absurd h4 hr.no32
        · rw [hq, List.map_nil, e0, e1 _ _ (by simpa using hp)] at h
          simp only [List.append_assoc, List.append_cancel_left_eq, List.cons_append, List.nil_append] at h
          obtain ⟨h3, h4⟩ := num_split (nonD_32 _) hr'.nonD h
          exact absurd h4.symm hr'.no32
        · rw [e1 _ _ (by simpa using hp), e1 _ _ (by simpa using hq)] at h
          simp only [List.append_assoc, List.append_cancel_left_eq, List.cons_append, List.nil_append] at h
          obtain ⟨h3, h4⟩ := num_split (nonD_32 _) (nonD_32 _) h
          simp only [List.cons.injEq, true_and] at h4
          obtain ⟨h5, h6⟩ := joins_inj IH (.inr rfl) v.f2 u.f2 r r' hsz hvp hup h4
          exact ⟨V_ext hf0 h3 h5, h6⟩
      · omega
    · rw [k0] at hcu h
      rcases hcu with ⟨h, _⟩ | ⟨h, _⟩ | ⟨h, _⟩ | ⟨h, _⟩ | ⟨_, g2, gn, gn2⟩
      · omega
      · omega
      · omega
      · omega
      · have e : ∀ n parts, textOf 5 n parts = tRef ++ Lib.itoa n := fun n parts => by simp [textOf]
        rw [e, e, List.append_assoc, List.append_assoc, List.append_cancel_left_eq] at h
        obtain ⟨h3, h4⟩ := num_split hr.nonD hr'.nonD h
        exact ⟨V_ext hf0 h3 (by rw [nil_of h2, nil_of g2]), h4⟩
theorem text_inj {v u : V} (hv : sound v = true) (hu : sound u = true) (h : text v = text u) : v = u :=
  (inj_k (size v) v u [] [] (Nat.le_refl _) hv hu (.inl rfl) (.inl rfl) (by rw [h])).1
end Go.Proofs.YtcikgloiojglpaaDoor.Val
