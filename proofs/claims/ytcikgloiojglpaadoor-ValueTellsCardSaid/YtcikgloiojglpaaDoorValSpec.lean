/- Values, in plain words: how many nodes they have, which are formed, what their text is. No program is in sight. No condition. -/
import Derived.Test.YtcikgloiojglpaaDoorKinds
import Derived.Lib.ItoaNum
import Derived.Lib.Join
namespace Go.Proofs.YtcikgloiojglpaaDoor.ValSpec
set_option linter.unusedVariables false
open Go Go.Proofs.YtcikgloiojglpaaDoor.Kinds
abbrev V := S24
def zV : V := ⟨0, 0, []⟩
mutual
def size : V → Nat
  | ⟨_, _, ps⟩ => 1 + sizes ps
def sizes : List V → Nat
  | [] => 0
  | p :: ps => size p + sizes ps
end
theorem size_eq (v : V) : size v = 1 + sizes v.f2 := by cases v; rw [size]
theorem size_pos (v : V) : 1 ≤ size v := by rw [size_eq]; omega
theorem sizes_append (xs ys : List V) : sizes (xs ++ ys) = sizes xs + sizes ys := by
  induction xs with
  | nil => simp [sizes]
  | cons x xs ih => simp only [List.cons_append, sizes, ih]; omega
theorem getD_mem {xs : List V} {i : Nat} (h : i < xs.length) : xs.getD i zV ∈ xs := by
  rw [List.getD_eq_getElem?_getD, List.getElem?_eq_getElem h]; exact List.getElem_mem h
theorem take_snoc {xs : List V} {i : Nat} (h : i < xs.length) : xs.take (i + 1) = xs.take i ++ [xs.getD i zV] := by
  rw [List.take_succ_eq_append_getElem h, List.getD_eq_getElem?_getD, List.getElem?_eq_getElem h]; rfl
theorem sizes_take {xs : List V} {i : Nat} (h : i < xs.length) : sizes (xs.take (i + 1)) = sizes (xs.take i) + size (xs.getD i zV) := by
  rw [take_snoc h, sizes_append]; simp [sizes]
theorem sizes_take_le (xs : List V) (i : Nat) : sizes (xs.take i) ≤ sizes xs := by
  have := sizes_append (xs.take i) (xs.drop i)
  rw [List.take_append_drop] at this
  omega
theorem size_mem {p : V} : ∀ {xs : List V}, p ∈ xs → size p ≤ sizes xs
  | x :: xs, h => by
    rw [sizes]
    rcases List.mem_cons.1 h with rfl | h
    · omega
    · have := size_mem h
      omega
theorem size_part {v p : V} (h : p ∈ v.f2) : size p < size v := by
  have := size_mem h
  rw [size_eq v]
  omega
def nodesN (v : V) : Nat := min (size v) 2001
/-! ### whose numbers are numbers -/
mutual
def good : V → Prop
  | ⟨_, n, ps⟩ => (-9223372036854775808 ≤ n ∧ n ≤ 9223372036854775807) ∧ goods ps
def goods : List V → Prop
  | [] => True
  | p :: ps => good p ∧ goods ps
end
theorem good_eq (v : V) : good v = ((-9223372036854775808 ≤ v.f1 ∧ v.f1 ≤ 9223372036854775807) ∧ goods v.f2) := by cases v; rw [good]
theorem goods_mem {p : V} : ∀ {xs : List V}, goods xs → p ∈ xs → good p
  | x :: xs, hg, h => by
    rw [goods] at hg
    rcases List.mem_cons.1 h with rfl | h
    · exact hg.1
    · exact goods_mem hg.2 h
theorem goods_of : ∀ {xs : List V}, (∀ p ∈ xs, good p) → goods xs
  | [], _ => by rw [goods]; trivial
  | x :: xs, h => by
    rw [goods]
    exact ⟨h x List.mem_cons_self, goods_of fun p hp => h p (List.mem_cons_of_mem _ hp)⟩
theorem good_part {v p : V} (hg : good v) (h : p ∈ v.f2) : good p := by
  rw [good_eq] at hg
  exact goods_mem hg.2 h
/-! ### formed values -/
def headB (k n : Int) (m : Nat) : Bool :=
  if k = 1 then decide (m = 0) else if k = 2 then decide (m = 0) && (decide (n = 0) || decide (n = 1)) else if k = 3 then decide (m = 2) && decide (n = 0)
  else if k = 4 then decide (0 ≤ n) && decide (n < 60) else if k = 5 then decide (m = 0) && (decide (0 ≤ n) && decide (n ≤ 2147483647)) else false
mutual
def sound : V → Bool
  | ⟨k, n, ps⟩ => headB k n ps.length && sounds ps
def sounds : List V → Bool
  | [] => true
  | p :: ps => sound p && sounds ps
end
theorem sound_eq (v : V) : sound v = (headB v.f0 v.f1 v.f2.length && sounds v.f2) := by cases v; rw [sound]
theorem sounds_iff {xs : List V} : sounds xs = true ↔ ∀ p ∈ xs, sound p = true := by
  induction xs with
  | nil => simp [sounds]
  | cons x xs ih => simp [sounds, ih]
theorem sounds_at {xs : List V} {i : Nat} (hi : i < xs.length) (h : sound (xs.getD i zV) = false) : sounds xs = false := by
  cases hs : sounds xs
  · rfl
  · rw [sounds_iff.1 hs _ (getD_mem hi)] at h; cases h
theorem sounds_all {xs : List V} (h : ∀ i, i < xs.length → sound (xs.getD i zV) = true) : sounds xs = true := by
  rw [sounds_iff]
  intro p hp
  obtain ⟨i, hi, rfl⟩ := List.getElem_of_mem hp
  have := h i hi
  rwa [List.getD_eq_getElem?_getD, List.getElem?_eq_getElem hi] at this
theorem sound_part {v p : V} (hs : sound v = true) (h : p ∈ v.f2) : sound p = true := by
  rw [sound_eq, Bool.and_eq_true] at hs
  exact sounds_iff.1 hs.2 p h
theorem sound_head {v : V} (hs : sound v = true) : headB v.f0 v.f1 v.f2.length = true := by
  rw [sound_eq, Bool.and_eq_true] at hs
  exact hs.1
def formedV (v : V) : Bool := decide (size v ≤ 2000) && sound v
/-! ### texts -/
def tTrue : List UInt8 := [116, 114, 117, 101]
def tFalse : List UInt8 := [102, 97, 108, 115, 101]
def tFun : List UInt8 := [102, 117, 110, 32]
def tRef : List UInt8 := [114, 101, 102, 32]
def joinT (xs : List (List UInt8)) : List UInt8 := Lib.join xs [44, 32]
def textOf (k n : Int) (parts : List (List UInt8)) : List UInt8 :=
  if k = 2 then (if n = 1 then tTrue else tFalse) else if k = 3 then 40 :: (joinT parts ++ [41])
  else if k = 4 then (if parts = [] then tFun ++ Lib.itoa n else tFun ++ (Lib.itoa n ++ (32 :: 91 :: (joinT parts ++ [93]))))
  else if k = 5 then tRef ++ Lib.itoa n else Lib.itoa n
mutual
def text : V → List UInt8
  | ⟨k, n, ps⟩ => textOf k n (texts ps)
def texts : List V → List (List UInt8)
  | [] => []
  | p :: ps => text p :: texts ps
end
theorem texts_map (xs : List V) : texts xs = xs.map text := by
  induction xs with
  | nil => rfl
  | cons x xs ih => rw [texts, ih]; rfl
theorem text_eq (v : V) : text v = textOf v.f0 v.f1 (v.f2.map text) := by cases v; rw [text, texts_map]
end Go.Proofs.YtcikgloiojglpaaDoor.ValSpec
