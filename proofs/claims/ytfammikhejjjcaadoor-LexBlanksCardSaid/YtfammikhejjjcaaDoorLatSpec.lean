/- What the chapter on orders says, in plain words: names, lattices, joins and meets. No program is in sight. No condition. -/
import Derived.Lib.TrimU
import Derived.Lib.ValidU
import Derived.Lib.MapLaws
import Derived.Lib.TrimUEq
import Derived.Lib.TrimAscii
namespace Go.Proofs.YtfammikhejjjcaaDoor.LatSpec
set_option linter.unusedVariables false
open Go Go.Lib
def letterR (r : Nat) : Bool := (decide (97 ≤ r) && decide (r ≤ 122)) || (decide (65 ≤ r) && decide (r ≤ 90)) || (decide (945 ≤ r) && decide (r ≤ 969))
def digitR (r : Nat) : Bool := decide (48 ≤ r) && decide (r ≤ 57)
/-- How many runes a text has, if each is a letter, or a digit that is not the first. -/
def pgo (l : List UInt8) (first : Bool) : Option Nat :=
  if h : l = [] then some 0 else if letterR (decodeL l).1 || (!first && digitR (decodeL l).1) then (pgo (l.drop (decodeL l).2) false).map (· + 1) else none
termination_by l.length
decreasing_by
  have h1 := decodeL_width l
  have h2 : 0 < l.length := List.length_pos_iff.2 h
  simp only [List.length_drop]
  omega
/-- A name, as the program tells it. -/
def nameP (l : List UInt8) : Bool := validD l && match pgo l true with | some n => decide (1 ≤ n) && decide (n ≤ 16) | none => false
theorem pgo_nil (first : Bool) : pgo [] first = some 0 := by rw [pgo]; simp
theorem pgo_good {l : List UInt8} {first : Bool} (hne : l ≠ []) (h : (letterR (decodeL l).1 || (!first && digitR (decodeL l).1)) = true) : pgo l first = (pgo (l.drop (decodeL l).2) false).map (· + 1) := by
  rw [pgo, dif_neg hne, if_pos h]
theorem pgo_bad {l : List UInt8} {first : Bool} (hne : l ≠ []) (h : (letterR (decodeL l).1 || (!first && digitR (decodeL l).1)) = false) : pgo l first = none := by
  rw [pgo, dif_neg hne, if_neg (by rw [h]; simp)]
theorem drop_ne {l : List UInt8} {p : Nat} (h : p < l.length) : l.drop p ≠ [] := by
  intro e
  have := congrArg List.length e
  rw [List.length_drop] at this
  simp at this
  omega
theorem step_bad {s : ByteArray} {k p r : Nat} (hp : p < s.size) (hr : r = (Utf8.decode s p).1) (hpg : pgo s.data.toList true = (pgo (s.data.toList.drop p) (decide (p = 0))).map (· + k))
    (h : (letterR r || (!(decide (p = 0)) && digitR r)) = false) : nameP s.data.toList = false := by
  have hl : p < s.data.toList.length := by simpa using hp
  rw [hr, ← decodeL_drop s p] at h
  rw [nameP, hpg, pgo_bad (drop_ne hl) h]
  simp
theorem step_good {s : ByteArray} {k p r d : Nat} (hp : p < s.size) (hr : r = (Utf8.decode s p).1) (hd : d = (Utf8.decode s p).2) (hpg : pgo s.data.toList true = (pgo (s.data.toList.drop p) (decide (p = 0))).map (· + k))
    (h : (letterR r || (!(decide (p = 0)) && digitR r)) = true) : p + d ≤ s.size ∧ pgo s.data.toList true = (pgo (s.data.toList.drop (p + d)) (decide (p + d = 0))).map (· + (k + 1)) := by
  have hl : p < s.data.toList.length := by simpa using hp
  have hw := decodeL_width (s.data.toList.drop p)
  have hle := decodeL_le (s.data.toList.drop p) (drop_ne hl)
  rw [hr, ← decodeL_drop s p] at h
  rw [decodeL_drop, ← hd] at hw hle
  rw [List.length_drop] at hle
  have hs : s.data.toList.length = s.size := by simp
  refine ⟨by omega, ?_⟩
  rw [hpg, pgo_good (drop_ne hl) h, List.drop_drop, decodeL_drop, ← hd, show decide (p + d = 0) = false by simp; omega, Option.map_map]
  congr 1
  funext x
  simp
  omega
theorem name_end {s : ByteArray} {k p : Nat} (hv : validD s.data.toList = true) (hp : s.size ≤ p) (hpg : pgo s.data.toList true = (pgo (s.data.toList.drop p) (decide (p = 0))).map (· + k)) : nameP s.data.toList = (decide (1 ≤ k) && decide (k ≤ 16)) := by
  have e : s.data.toList.drop p = [] := by rw [List.drop_eq_nil_iff]; simpa using hp
  rw [nameP, hpg, e, pgo_nil, hv]
  simp
/-- Two bytes that are a letter beyond: alpha to omega. -/
def greek (b c : Nat) : Bool := (decide (b = 206) && decide (177 ≤ c) && decide (c ≤ 191)) || (decide (b = 207) && decide (128 ≤ c) && decide (c ≤ 137))
/-- The same, byte by byte. -/
def rgo : List UInt8 → Bool → Option Nat
  | [], _ => some 0
  | b :: t, first =>
    if b.toNat < 128 then (if letterR b.toNat || (!first && digitR b.toNat) then (rgo t false).map (· + 1) else none)
    else match t with
      | [] => none
      | c :: t' => if greek b.toNat c.toNat then (rgo t' false).map (· + 1) else none
/-- A name, as the reference tells it. -/
def nameR (l : List UInt8) : Bool := match rgo l true with | some n => decide (1 ≤ n) && decide (n ≤ 16) | none => false
theorem digit_lt {r : Nat} (h : digitR r = true) : r < 128 := by simp [digitR] at h; omega
theorem high_letter {b : UInt8} {t : List UInt8} (hb : ¬ b.toNat < 128) (h : letterR (decodeL (b :: t)).1 = true) : ∃ c t', t = c :: t' ∧ greek b.toNat c.toNat = true ∧ (decodeL (b :: t)).2 = 2 := by
  have hb2 := b.toNat_lt
  rw [decodeL_N] at h ⊢
  simp only [decodeN, List.length_cons] at h ⊢
  have e0 : ((b :: t).getD 0 0).toNat = b.toNat := rfl
  rw [e0] at h ⊢
  rw [if_neg hb] at h ⊢
  by_cases h1 : b.toNat / 32 = 6 ∧ 1 < t.length + 1 ∧ ((b :: t).getD 1 0).toNat / 64 = 2
  · rw [if_pos h1] at h ⊢
    match t, h1 with
    | c :: t', h1 =>
      have e1 : ((b :: c :: t').getD 1 0).toNat = c.toNat := rfl
      rw [e1] at h h1 ⊢
      have hc := c.toNat_lt
      by_cases h2 : b.toNat % 32 * 64 + c.toNat % 64 ≥ 128
      · rw [if_pos h2] at h ⊢
        refine ⟨c, t', rfl, ?_, rfl⟩
        simp [letterR] at h
        simp [greek]
        omega
      · rw [if_neg h2] at h
        simp [letterR] at h
    | [], h1 => simp at h1
  · rw [if_neg h1] at h
    exfalso
    generalize ((b :: t).getD 1 0).toNat = b1 at h
    generalize ((b :: t).getD 2 0).toNat = b2 at h
    generalize ((b :: t).getD 3 0).toNat = b3 at h
    simp only [letterR, Bool.or_eq_true, Bool.and_eq_true, decide_eq_true_eq] at h
    revert h
    repeat' split
    all_goals (dsimp only; omega)
theorem greek_decode {b c : UInt8} {t : List UInt8} (h : greek b.toNat c.toNat = true) : ¬ b.toNat < 128 ∧ letterR (decodeL (b :: c :: t)).1 = true ∧ (decodeL (b :: c :: t)).2 = 2 ∧ ¬ ((decodeL (b :: c :: t)).1 = 65533 ∧ (decodeL (b :: c :: t)).2 = 1) := by
  have hb2 := b.toNat_lt
  have hc := c.toNat_lt
  simp [greek] at h
  rw [decodeL_N]
  simp only [decodeN, List.length_cons]
  have e0 : ((b :: c :: t).getD 0 0).toNat = b.toNat := rfl
  have e1 : ((b :: c :: t).getD 1 0).toNat = c.toNat := rfl
  rw [e0, e1, if_neg (by omega), if_pos ⟨by omega, by omega, by omega⟩, if_pos (by omega)]
  refine ⟨by omega, ?_, rfl, by simp⟩
  simp [letterR]
  omega
theorem vg_succ (n : Nat) (b : UInt8) (t : List UInt8) : validGoD (n + 1) (b :: t) = if (decodeL (b :: t)).1 = 65533 ∧ (decodeL (b :: t)).2 = 1 then false else validGoD n ((b :: t).drop (decodeL (b :: t)).2) := by
  rw [validGoD, if_neg (by simp)]
theorem vg_nil (n : Nat) : validGoD n [] = true := by cases n <;> simp [validGoD]
theorem drop_le (b : UInt8) (t : List UInt8) : ((b :: t).drop (decodeL (b :: t)).2).length ≤ t.length := by
  have hw := decodeL_width (b :: t)
  rw [List.length_drop, List.length_cons]
  omega
theorem validGoD_mono (n : Nat) : ∀ (m : Nat) (l : List UInt8), l.length ≤ n → l.length ≤ m → validGoD n l = validGoD m l := by
  induction n with
  | zero =>
    intro m l h _
    match l, h with
    | [], _ => rw [vg_nil, vg_nil]
  | succ n ih =>
    intro m l h hm
    match l, m, h, hm with
    | [], m, _, _ => rw [vg_nil, vg_nil]
    | b :: t, m + 1, h, hm =>
      simp only [List.length_cons] at h hm
      have hle := drop_le b t
      rw [vg_succ, vg_succ, ih m _ (by omega) (by omega)]
theorem validD_cons (b : UInt8) (t : List UInt8) : validD (b :: t) = if (decodeL (b :: t)).1 = 65533 ∧ (decodeL (b :: t)).2 = 1 then false else validD ((b :: t).drop (decodeL (b :: t)).2) := by
  have hle := drop_le b t
  unfold validD
  rw [List.length_cons, vg_succ, validGoD_mono t.length _ _ hle (Nat.le_refl _)]
/-- The two ways are one. -/
theorem rgo_eq : ∀ (n : Nat) (l : List UInt8) (first : Bool), l.length ≤ n → rgo l first = if validD l then pgo l first else none
  | _, [], first, _ => by simp [rgo, pgo_nil, validD, validGoD]
  | 0, _ :: _, _, h => by simp at h
  | n + 1, b :: t, first, h => by
    simp only [List.length_cons] at h
    by_cases hb : b.toNat < 128
    · have hd := decodeL_ascii b t hb
      have hv : validD (b :: t) = validD t := by rw [validD_cons, hd]; simp; omega
      rw [hv, rgo.eq_def]
      simp only [hb, if_true]
      by_cases hg : (letterR b.toNat || (!first && digitR b.toNat)) = true
      · rw [if_pos hg, rgo_eq n t false (by omega), pgo_good (l := b :: t) (first := first) (by simp) (by rw [hd]; exact hg), hd]
        simp only [List.drop_succ_cons, List.drop_zero]
        split <;> rfl
      · rw [if_neg hg, pgo_bad (by simp) (by rw [hd]; simpa using hg)]
        simp
    · rw [rgo.eq_def]
      simp only [hb, if_false]
      by_cases hL : letterR (decodeL (b :: t)).1 = true
      · obtain ⟨c, t', rfl, hg, hd⟩ := high_letter hb hL
        obtain ⟨_, _, _, hnv⟩ := greek_decode (t := t') hg
        simp only [hg, if_true]
        rw [validD_cons, if_neg hnv, pgo_good (by simp) (by simp [hL]), hd]
        simp only [List.drop_succ_cons, List.drop_zero]
        rw [rgo_eq n t' false (by simp only [List.length_cons] at h; omega)]
        split <;> rfl
      · have hdg : digitR (decodeL (b :: t)).1 = false := by
          by_cases hx : digitR (decodeL (b :: t)).1 = true
          · exfalso
            have h3 := digit_lt hx
            rw [decodeL_N] at h3
            simp only [decodeN, List.length_cons] at h3
            have e0 : ((b :: t).getD 0 0).toNat = b.toNat := rfl
            rw [e0, if_neg hb] at h3
            generalize ((b :: t).getD 1 0).toNat = b1 at h3
            generalize ((b :: t).getD 2 0).toNat = b2 at h3
            generalize ((b :: t).getD 3 0).toNat = b3 at h3
            revert h3
            repeat' split
            all_goals (dsimp only; omega)
          · simpa using hx
        have hp : pgo (b :: t) first = none := pgo_bad (by simp) (by simp [hdg]; simpa using hL)
        rw [hp]
        simp only [ite_self]
        match t with
        | [] => rfl
        | c :: t' =>
          by_cases hg : greek b.toNat c.toNat = true
          · exact absurd (greek_decode (t := t') hg).2.1 hL
          · simp [hg]
theorem name_eq (l : List UInt8) : nameR l = nameP l := by
  unfold nameR nameP
  rw [rgo_eq l.length l true (Nat.le_refl _)]
  cases validD l <;> simp
/-! ### orders -/
structure Lat where
  names : List ByteArray
  order : List (List Bool)
def ord (l : Lat) (x y : Nat) : Bool := (l.order.getD x []).getD y false
/-- The order, or the order turned round. -/
def und (l : Lat) (above : Bool) (x y : Nat) : Bool := if above then ord l x y else ord l y x
/-- Is c above, or below, both, and the least, or greatest, among such? -/
def isB (l : Lat) (above : Bool) (a b c : Nat) : Bool := und l above a c && und l above b c && (List.range l.names.length).all fun d => !und l above a d || !und l above b d || und l above c d
def boundN (l : Lat) (above : Bool) (a b : Nat) : Int := match (List.range l.names.length).find? (isB l above a b) with | some c => c | none => -1
/-- The third part of isB, up to d. -/
def lst (l : Lat) (above : Bool) (a b c d : Nat) : Bool := (List.range d).all fun d => !und l above a d || !und l above b d || und l above c d
theorem lst_succ (l : Lat) (above : Bool) (a b c d : Nat) : lst l above a b c (d + 1) = (lst l above a b c d && (!und l above a d || !und l above b d || und l above c d)) := by simp [lst, List.range_succ]
theorem find_range_some {P : Nat → Bool} {n k : Nat} (hk : k < n) (h : P k = true) (hj : ∀ j, j < k → P j = false) : (List.range n).find? P = some k := by
  rw [List.find?_range_eq_some]
  exact ⟨h, by simpa using hk, fun j hjk => by simp [hj j hjk]⟩
theorem bound_found {l : Lat} {above : Bool} {a b k : Nat} (hk : k < l.names.length) (h : isB l above a b k = true) (hj : ∀ j, j < k → isB l above a b j = false) : boundN l above a b = k := by
  rw [boundN, find_range_some hk h hj]
theorem bound_none {l : Lat} {above : Bool} {a b : Nat} (hj : ∀ j, j < l.names.length → isB l above a b j = false) : boundN l above a b = -1 := by
  rw [boundN, List.find?_eq_none.2 (fun j h => by simp [hj j (by simpa using h)])]
end Go.Proofs.YtfammikhejjjcaaDoor.LatSpec
