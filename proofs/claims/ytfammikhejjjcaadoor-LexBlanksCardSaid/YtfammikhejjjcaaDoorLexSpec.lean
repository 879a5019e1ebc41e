/- The words of a text, in plain Lean, and that they are told in two ways alike. No condition. -/
import Derived.Test.YtfammikhejjjcaaDoorLatSpec
import Derived.Test.YtfammikhejjjcaaDoorKinds
import Derived.Lib.ParseIntB
namespace Go.Proofs.YtfammikhejjjcaaDoor.LexSpec
set_option linter.unusedVariables false
set_option linter.unusedSimpArgs false
open Go Go.Lib Go.Proofs.YtfammikhejjjcaaDoor.LatSpec Go.Proofs.YtfammikhejjjcaaDoor.Kinds
abbrev L := List UInt8
/-- A word: its kind, its text, its number, its place. -/
abbrev T := S36
/-- How many bytes at a text's beginning are runes of a kind. -/
def ofN (P : Nat → Bool) (l : L) : Nat :=
  if h : l = [] then 0 else if (decodeL l).1 = 65533 ∨ P (decodeL l).1 = false then 0 else (decodeL l).2 + ofN P (l.drop (decodeL l).2)
termination_by l.length
decreasing_by
  have h1 := decodeL_width l
  have h2 : 0 < l.length := List.length_pos_iff.2 h
  simp only [List.length_drop]
  omega
def wordP (r : Nat) : Bool := letterR r || digitR r
/-- How many bytes the letter at a text's beginning has; 0: there is none. -/
def ks : L → Nat
  | [] => 0
  | b :: t => if b.toNat < 128 then (if letterR b.toNat then 1 else 0) else match t with
    | [] => 0
    | c :: _ => if greek b.toNat c.toNat then 2 else 0
theorem ks_low {b : UInt8} {t : L} (h : b.toNat < 128) : ks (b :: t) = if letterR b.toNat then 1 else 0 := by
  cases t <;> simp [ks, h]
theorem ks_one {b : UInt8} (h : ¬ b.toNat < 128) : ks [b] = 0 := by simp [ks, h]
theorem ks_two {b c : UInt8} {t : L} (h : ¬ b.toNat < 128) : ks (b :: c :: t) = if greek b.toNat c.toNat then 2 else 0 := by simp [ks, h]
/-- Is there a digit at a text's beginning? -/
def isD : L → Bool
  | [] => false
  | b :: _ => digitR b.toNat
def kws : List ByteArray := [⟨#[108, 97, 116, 116, 105, 99, 101]⟩, ⟨#[109, 97, 105, 110]⟩, ⟨#[108, 101, 116]⟩, ⟨#[105, 110]⟩, ⟨#[105, 102]⟩, ⟨#[116, 104, 101, 110]⟩, ⟨#[101, 108, 115, 101]⟩, ⟨#[102, 117, 110]⟩, ⟨#[101, 110, 100]⟩, ⟨#[114, 97, 105, 115, 101]⟩, ⟨#[116, 114, 121]⟩, ⟨#[119, 105, 116, 104]⟩, ⟨#[111, 117, 116]⟩, ⟨#[110, 101, 119]⟩, ⟨#[110, 111, 116]⟩, ⟨#[102, 115, 116]⟩, ⟨#[115, 110, 100]⟩, ⟨#[116, 114, 117, 101]⟩, ⟨#[102, 97, 108, 115, 101]⟩, ⟨#[105, 110, 116]⟩, ⟨#[98, 111, 111, 108]⟩, ⟨#[114, 101, 102]⟩, ⟨#[110, 111, 110, 101]⟩]
def isKw (l : L) : Bool := decide (l ∈ kws.map fun k => k.data.toList)
/-- What digits spell. -/
def valD (l : L) : Nat := l.foldl (fun a c => a * 10 + (c.toNat - 48)) 0
def numOK (l : L) : Bool := decide (valD l < 9223372036854775808) && (decide (l.length = 1) || decide (l.head? ≠ some 48))
def sign2 : L → Bool
  | a :: b :: _ => decide ((a, b) ∈ ([(61, 61), (61, 62), (45, 62), (58, 61)] : List (UInt8 × UInt8)))
  | _ => false
def signs : L := [40, 41, 91, 93, 123, 125, 60, 62, 44, 59, 58, 64, 33, 61, 43, 45, 42, 47, 37]
def sign1 : L → Bool
  | a :: _ => decide (a ∈ signs)
  | _ => false
structure Tk where
  k : Int
  m : Nat
  n : Int
def nextName (l : L) : Option Tk := if nameR (l.take (ofN wordP l)) then some ⟨if isKw (l.take (ofN wordP l)) then 2 else 1, ofN wordP l, 0⟩ else none
def nextNum (l : L) : Option Tk := if numOK (l.take (ofN digitR l)) then some ⟨3, ofN digitR l, valD (l.take (ofN digitR l))⟩ else none
def nextSign (l : L) : Option Tk := if sign2 l then some ⟨4, 2, 0⟩ else if sign1 l then some ⟨4, 1, 0⟩ else none
/-- The word at a text's beginning. -/
def next (l : L) : Option Tk := if 0 < ks l then nextName l else if isD l then nextNum l else nextSign l
/-- How many bytes a blank or a remark has. -/
def skip1 : L → Option Nat
  | [] => none
  | b :: t => if b = 10 ∨ b = 32 ∨ b = 9 then some 1 else if b = 35 then some (1 + (t.takeWhile (· ≠ 10)).length) else none
theorem skip_pos {l : L} {k : Nat} (h : skip1 l = some k) : 1 ≤ k ∧ k ≤ l.length := by
  match l, h with
  | b :: t, h =>
    rw [skip1] at h
    have ht := (List.takeWhile_sublist (l := t) (· ≠ 10)).length_le
    simp only [List.length_cons]
    split at h
    · injection h with h; omega
    · split at h
      · injection h with h
        omega
      · cases h
theorem ofN_nil (P : Nat → Bool) : ofN P [] = 0 := by rw [ofN]; simp
theorem ofN_stop {P : Nat → Bool} {l : L} (h : l = [] ∨ (decodeL l).1 = 65533 ∨ P (decodeL l).1 = false) : ofN P l = 0 := by
  rw [ofN]
  rcases h with h | h
  · simp [h]
  · by_cases e : l = []
    · simp [e]
    · rw [dif_neg e, if_pos h]
theorem ofN_go {P : Nat → Bool} {l : L} (hne : l ≠ []) (h1 : (decodeL l).1 ≠ 65533) (h2 : P (decodeL l).1 = true) : ofN P l = (decodeL l).2 + ofN P (l.drop (decodeL l).2) := by
  rw [ofN, dif_neg hne, if_neg (by simp [h1, h2])]
theorem ofN_le (P : Nat → Bool) : ∀ (n : Nat) (l : L), l.length ≤ n → ofN P l ≤ l.length
  | _, [], _ => by rw [ofN_nil]; simp
  | 0, _ :: _, h => by simp at h
  | n + 1, b :: t, h => by
    by_cases hs : (decodeL (b :: t)).1 = 65533 ∨ P (decodeL (b :: t)).1 = false
    · rw [ofN_stop (.inr hs)]; omega
    · rw [not_or] at hs
      rw [ofN_go (by simp) hs.1 (by simpa using hs.2)]
      have h1 := decodeL_le (b :: t) (by simp)
      have h2 := decodeL_width (b :: t)
      have h3 := ofN_le P n ((b :: t).drop (decodeL (b :: t)).2) (by simp only [List.length_drop, List.length_cons] at *; omega)
      rw [List.length_drop] at h3
      omega
theorem ofN_len (P : Nat → Bool) (l : L) : ofN P l ≤ l.length := ofN_le P _ l (Nat.le_refl _)
theorem letter_ne {r : Nat} (h : letterR r = true) : r ≠ 65533 := by
  rintro rfl
  simp [letterR] at h
theorem high_digit {b : UInt8} {t : L} (hb : ¬ b.toNat < 128) : digitR (decodeL (b :: t)).1 = false := by
  by_cases hx : digitR (decodeL (b :: t)).1 = true
  · exfalso
    have h3 := digit_lt hx
    rw [decodeL_N] at h3
    simp only [decodeN, List.length_cons] at h3
    have e0 : ((b :: t).getD 0 0).toNat = b.toNat := rfl
    rw [e0, if_neg hb] at h3
    generalize ((b :: t).getD 1 0).toNat = b1 at h3
    generalize ((b :: t).getD 2 0).toNat = b2 at h3
    generalize ((b :: t).getD 3 0).toNat = b3 at h3
    revert h3
    repeat' split
    all_goals (dsimp only; omega)
  · simpa using hx
/-- What stands at a text's beginning: a letter, a digit, or another thing, by its bytes and by its rune. -/
theorem kinds3 {l : L} (hne : l ≠ []) : (0 < ks l ∧ isD l = false ∧ (decodeL l).2 = ks l ∧ letterR (decodeL l).1 = true ∧ ks l ≤ l.length) ∨ (ks l = 0 ∧ isD l = true ∧ (decodeL l).2 = 1 ∧ letterR (decodeL l).1 = false ∧ digitR (decodeL l).1 = true) ∨ (ks l = 0 ∧ isD l = false ∧ letterR (decodeL l).1 = false ∧ digitR (decodeL l).1 = false) := by
  match l, hne with
  | b :: t, _ =>
    by_cases hb : b.toNat < 128
    · rw [decodeL_ascii b t hb, ks_low hb, isD]
      by_cases hl : letterR b.toNat = true
      · refine .inl ⟨by rw [if_pos hl]; omega, ?_, by rw [if_pos hl], hl, by rw [if_pos hl]; simp⟩
        simp [letterR] at hl
        simp [digitR]
        omega
      · rw [if_neg hl]
        by_cases hd : digitR b.toNat = true
        · exact .inr (.inl ⟨rfl, hd, rfl, by simpa using hl, hd⟩)
        · exact .inr (.inr ⟨rfl, by simpa using hd, by simpa using hl, by simpa using hd⟩)
    · have hdg := high_digit (t := t) hb
      have hd2 : isD (b :: t) = false := by
        rw [isD]
        simp [digitR]
        omega
      by_cases hL : letterR (decodeL (b :: t)).1 = true
      · obtain ⟨c, t', rfl, hg, hd⟩ := high_letter hb hL
        have e : ks (b :: c :: t') = 2 := by simp [ks, hb, hg]
        refine .inl ⟨by rw [e]; omega, hd2, by rw [e, hd], hL, by rw [e]; simp⟩
      · refine .inr (.inr ⟨?_, hd2, by simpa using hL, hdg⟩)
        match t with
        | [] => exact ks_one hb
        | c :: t' =>
          rw [ks_two hb]
          by_cases hg : greek b.toNat c.toNat = true
          · exact absurd (greek_decode (t := t') hg).2.1 hL
          · rw [if_neg hg]
theorem digit_ne {r : Nat} (h : digitR r = true) : r ≠ 65533 := by
  have := digit_lt h
  omega
theorem of_word {l : L} (hne : l ≠ []) : ofN wordP l = if 0 < ks l then ks l + ofN wordP (l.drop (ks l)) else if isD l then 1 + ofN wordP (l.drop 1) else 0 := by
  rcases kinds3 hne with ⟨h1, h2, h3, h4, _⟩ | ⟨h1, h2, h3, h4, h5⟩ | ⟨h1, h2, h3, h4⟩
  · rw [if_pos h1, ofN_go hne (letter_ne h4) (by simp [wordP, h4]), h3]
  · rw [h1, if_neg (by omega), if_pos h2, ofN_go hne (digit_ne h5) (by simp [wordP, h5]), h3]
  · rw [h1, if_neg (by omega), if_neg (by simp [h2]), ofN_stop (.inr (.inr (by simp [wordP, h3, h4])))]
theorem of_letter {l : L} (hne : l ≠ []) : ofN letterR l = if 0 < ks l then ks l + ofN letterR (l.drop (ks l)) else 0 := by
  rcases kinds3 hne with ⟨h1, h2, h3, h4, _⟩ | ⟨h1, h2, h3, h4, h5⟩ | ⟨h1, h2, h3, h4⟩
  · rw [if_pos h1, ofN_go hne (letter_ne h4) h4, h3]
  · rw [h1, if_neg (by omega), ofN_stop (.inr (.inr h4))]
  · rw [h1, if_neg (by omega), ofN_stop (.inr (.inr h3))]
theorem of_digit {l : L} (hne : l ≠ []) : ofN digitR l = if isD l then 1 + ofN digitR (l.drop 1) else 0 := by
  rcases kinds3 hne with ⟨h1, h2, h3, h4, _⟩ | ⟨h1, h2, h3, h4, h5⟩ | ⟨h1, h2, h3, h4⟩
  · rw [if_neg (by simp [h2]), ofN_stop (.inr (.inr ?_))]
    by_cases hx : digitR (decodeL l).1 = true
    · exfalso
      simp [letterR] at h4
      simp [digitR] at hx
      omega
    · simpa using hx
  · rw [if_pos h2, ofN_go hne (digit_ne h5) h5, h3]
  · rw [if_neg (by simp [h2]), ofN_stop (.inr (.inr h4))]
theorem letter_pos {l : L} (hne : l ≠ []) : 0 < ofN letterR l ↔ 0 < ks l := by
  rw [of_letter hne]
  split
  · omega
  · omega
theorem digit_pos {l : L} (hne : l ≠ []) : 0 < ofN digitR l ↔ isD l = true := by
  rw [of_digit hne]
  split
  · rename_i h; exact ⟨fun _ => h, fun _ => by omega⟩
  · rename_i h; exact ⟨fun x => absurd x (by omega), fun x => absurd x h⟩
/-- One rune is a name just if it is a letter. -/
theorem name_rune {l : L} (hne : l ≠ []) : nameR (l.take (decodeL l).2) = letterR (decodeL l).1 := by
  match l, hne with
  | b :: t, _ =>
    by_cases hb : b.toNat < 128
    · rw [decodeL_ascii b t hb]
      show nameR [b] = letterR b.toNat
      rw [nameR, rgo.eq_def]
      simp only [hb, if_true]
      by_cases hl : letterR b.toNat = true
      · simp [hl, rgo]
      · simp [hl]
    · by_cases hL : letterR (decodeL (b :: t)).1 = true
      · obtain ⟨c, t', rfl, hg, hd⟩ := high_letter hb hL
        rw [hd, hL]
        show nameR [b, c] = true
        rw [nameR, rgo.eq_def]
        simp [hb, hg, rgo]
      · have hw := decodeL_width (b :: t)
        obtain ⟨d, hd⟩ : ∃ d, (decodeL (b :: t)).2 = d + 1 := ⟨(decodeL (b :: t)).2 - 1, by omega⟩
        rw [hd, List.take_succ_cons, show letterR (decodeL (b :: t)).1 = false by simpa using hL, nameR, rgo.eq_def]
        simp only [hb, if_false]
        match t, d with
        | [], 0 => rfl
        | [], _ + 1 => rfl
        | _ :: _, 0 => rfl
        | c :: t', d + 1 =>
          simp only [List.take_succ_cons]
          by_cases hg : greek b.toNat c.toNat = true
          · exact absurd (greek_decode (t := t') hg).2.1 hL
          · simp [hg]
/-- One byte, two bytes: a name. -/
theorem name_1 (b : UInt8) : nameR [b] = (decide (b.toNat < 128) && letterR b.toNat) := by
  rw [nameR, rgo.eq_def]
  by_cases hb : b.toNat < 128
  · by_cases hl : letterR b.toNat = true
    · simp [hl, rgo, hb]
    · simp [hl, hb]
  · simp [hb]
theorem name_2 (b c : UInt8) (h : nameR [b] = false) : nameR [b, c] = (!decide (b.toNat < 128) && greek b.toNat c.toNat) := by
  rw [name_1] at h
  rw [nameR, rgo.eq_def]
  by_cases hb : b.toNat < 128
  · have hl : letterR b.toNat = false := by simpa [hb] using h
    simp [hb, hl]
  · by_cases hg : greek b.toNat c.toNat = true
    · simp [hb, hg, rgo]
    · simp [hb, hg]
end Go.Proofs.YtfammikhejjjcaaDoor.LexSpec
