/- Plain lemmas that the walks of this claim use: numbers, lists, rows of memory, states behind a pointer. No program is in sight. No condition. -/
import Derived.Test.YtfammikhejjjcaaDoorWWords
import Derived.WalkKit
import Derived.Lib.Hide
import Derived.Laws.CopyOwn
import Derived.Laws.Bits64
namespace Go.Proofs.YtfammikhejjjcaaDoor.Aux
set_option linter.unusedVariables false
open Go.RowKit Go.Proofs.YtfammikhejjjcaaDoorW.PrintWords
theorem wrap64_id {x : Int} (h0 : -9223372036854775808 ≤ x) (h1 : x ≤ 9223372036854775807) : wrap64 x = x := by unfold wrap64; omega
theorem own_of_blk {W : World} {g base : Nat} {e : TypeId} {cur : List Value} {n cap : Nat} {xs : List Value} (h : W.heap[g]? = some (.cells cur.toArray e (0, 0))) (hb : base ≤ g) (hn : n ≤ cap) (hc : cur.length = cap) (hm : cap ≤ maxLen) (ht : cur.take n = xs) (hx : xs.length = n) :
    W.ownsRow base e 1 (.slice (some ⟨g, 0, none⟩) n cap) n xs :=
  ⟨by omega, .inr ⟨g, cap, cur.toArray, rfl, hb, h, hn, hm, by simp; omega, by simpa using ht⟩⟩
theorem copy_reads {w w1 : World} {A : Option Addr} {b : List Int} (hr : ReadsOf (Value.int .u8) 0 w A b.length b) (hb : Below w.heap.size w w1) (h : 0 < (nums .u8 b).length) : ∃ ad, A = some ad ∧ ∀ j v, (nums .u8 b)[j]? = some v → w1.cell? (ad.add j) = some v := by
  rw [nums_length] at h
  obtain ⟨ad, e, hc⟩ := hr.2.2 h
  refine ⟨ad, e, fun j v hj => ?_⟩
  have hlt : j < b.length := by
    rcases Nat.lt_or_ge j b.length with h | h
    · exact h
    · rw [List.getElem?_eq_none (by rw [nums_length]; exact h)] at hj; cases hj
  rw [pw_cell_below hb (hc j hlt)]
  simp [nums, hlt] at hj
  simp [hlt, hj]
/-! ### worlds that differ in one block -/
theorem grown_refl (w : World) (g : Option Nat) : w.grownBy w g := ⟨rfl, rfl, rfl, Nat.le_refl _, fun _ _ _ => rfl⟩
theorem grown_trans {w w1 w2 : World} {g : Nat} (h : w.grownBy w1 (some g)) (k : w1.grownBy w2 (some g)) : w.grownBy w2 (some g) :=
  ⟨k.os.trans h.os, k.tape.trans h.tape, k.output.trans h.output, Nat.le_trans h.size k.size, fun i hi hn => (k.block i (Nat.lt_of_lt_of_le hi h.size) hn).trans (h.block i hi hn)⟩
theorem grown_below {w w1 w2 : World} {g : Nat} (h : w.grownBy w1 (some g)) (k : Below w1.heap.size w1 w2) : w.grownBy w2 (some g) :=
  ⟨k.os.trans h.os, k.tape.trans h.tape, k.output.trans h.output, Nat.le_trans h.size k.size, fun i hi hn => (k.block i (Nat.lt_of_lt_of_le hi h.size)).trans (h.block i hi hn)⟩
theorem grown_set {w w1 : World} {g j : Nat} {u : Value} (h : w.grownBy w1 (some g)) : w.grownBy (w1.setCell ⟨g, j, none⟩ u) (some g) :=
  ⟨h.os, h.tape, h.output, by have := h.size; simpa [World.setCell] using this, fun i hi hn => (Below.heap_setCell w1 _ u i (by intro e; exact hn (by rw [e]))).trans (h.block i hi hn)⟩
theorem grown_drewN {w w1 : World} {g : Option Nat} (h : w.grownBy w1 g) (n : Nat) : w.grownBy (w1.drewN n) g := ⟨h.os, h.tape, h.output, h.size, h.block⟩
theorem grown_alloc {w w1 : World} {g : Nat} (h : w.grownBy w1 (some g)) (o : Obj) : w.grownBy (w1.alloc o) (some g) := grown_below h (below_alloc (Below.refl _ _) o)
theorem below_of_grown {w w1 w2 : World} {g : Nat} (h : Below w.heap.size w w1) (hg : w1.grownBy w2 (some g)) (hB : w.heap.size ≤ g) : Below w.heap.size w w2 :=
  h.grown hg h.size (fun k hk => by injection hk with hk; omega)
/-- What is read elsewhere than in the one block that changed is read on. -/
theorem C_grown {α : Type} {d : Kd α} {w w1 : World} {g : Nat} {A : Option Addr} {n : Nat} {xs : List α} (h : d.C w A n xs) (hg : w.grownBy w1 (some g)) (hK : ∀ x cs, d.K w x cs → d.K w1 x cs) (hne : ∀ ad, A = some ad → 0 < n → ad.block ≠ g) (hs : 0 < d.sz) : d.C w1 A n xs := by
  refine ⟨h.1, h.2.1, fun hn => ?_⟩
  obtain ⟨ad, e, hc⟩ := h.2.2 hn
  refine ⟨ad, e, fun j p hj => ?_⟩
  obtain ⟨cs, h1, h2, h3⟩ := hc j p hj
  refine ⟨cs, h1, hK _ _ h2, fun i u hu => ?_⟩
  have hcell := h3 i u hu
  have hb := World.block_lt_of_cell? w _ hcell
  exact hg.cell hcell (by rw [add_block]; intro e'; injection e' with e'; exact hne ad e hn e')
theorem bits_shift_or (x c : Int) (hx : 0 ≤ x) (hc0 : 0 ≤ c) (hc : c ≤ 255) : bits .or .u64 (IntKind.u64.wrap (x * 256)) (IntKind.u64.wrap c) = (x * 256 + c) % 18446744073709551616 := by
  rw [IntKind.wrap_u64, IntKind.wrap_u64]
  obtain ⟨m, rfl⟩ := Int.eq_ofNat_of_zero_le hx
  obtain ⟨b, rfl⟩ := Int.eq_ofNat_of_zero_le hc0
  have e1 : ((m : Int) * 256 % 18446744073709551616) = ((2 ^ 8 * (m % 72057594037927936) : Nat) : Int) := by omega
  have e2 : ((b : Int) % 18446744073709551616) = ((b : Nat) : Int) := by omega
  rw [e1, e2, bits_or_u64_nat _ _ (by omega) (by omega), ← Nat.two_pow_add_eq_or_of_lt (by omega)]
  omega
theorem ret_bool {a b : Bool} (h : a = b) : Ending.returned (.bool a) = .returned (.bool b) := by rw [h]
theorem ret_int {k : IntKind} {a b : Int} (h : a = b) : Ending.returned (.int k a) = .returned (.int k b) := by rw [h]
/-! ### what a row's cell holds -/
theorem C_slice_get {α : Type} {e : Nat} {d : Kd α} {w : World} {A : Option Addr} {n : Nat} {xs : List (List α)} (h : (Kd.slice e d).C w A n xs) {i : Nat} (hi : i < n) :
    ∃ ad A' c', A = some ad ∧ w.cell? (ad.add i) = some (.slice A' (xs.getD i []).length c') ∧ (xs.getD i []).length ≤ c' ∧ d.C w A' (xs.getD i []).length (xs.getD i []) := by
  obtain ⟨ad, c, e1, _, ⟨A', c', hc, hl, hC⟩, hcell⟩ := Kd.C_get h [] (i : Int) (by omega) (by omega)
  rw [Int.toNat_natCast] at hc hl hC hcell
  subst hc
  have := hcell 0 _ rfl
  exact ⟨ad, A', c', e1, by simpa [Kd.slice] using this, hl, hC⟩
theorem C_scalar_get {α : Type} {enc : α → Value} {h1 : ∀ x, (enc x).oneCell' = true} (z : α) {w : World} {A : Option Addr} {n : Nat} {xs : List α} (h : (Kd.scalar enc h1).C w A n xs) {i : Nat} (hi : i < n) :
    ∃ ad, A = some ad ∧ w.cell? (ad.add i) = some (enc (xs.getD i z)) := by
  obtain ⟨ad, c, e1, _, hc, hcell⟩ := Kd.C_get h z (i : Int) (by omega) (by omega)
  rw [Int.toNat_natCast] at hc hcell
  have hc' : c = [enc (xs.getD i z)] := hc
  subst hc'
  have := hcell 0 _ rfl
  exact ⟨ad, e1, by simpa [Kd.scalar] using this⟩
theorem C_bool_get {w : World} {A : Option Addr} {n : Nat} {xs : List Bool} (h : Kd.bool.C w A n xs) {i : Nat} (hi : i < n) : ∃ ad, A = some ad ∧ w.cell? (ad.add i) = some (.bool (xs.getD i false)) := C_scalar_get false h hi
theorem C_str_get {w : World} {A : Option Addr} {n : Nat} {xs : List ByteArray} (h : Kd.string.C w A n xs) {i : Nat} (hi : i < n) : ∃ ad, A = some ad ∧ w.cell? (ad.add i) = some (.string (xs.getD i ByteArray.empty)) := C_scalar_get ByteArray.empty h hi
theorem C_int_get {k : IntKind} {w : World} {A : Option Addr} {n : Nat} {xs : List Int} (h : (Kd.int k).C w A n xs) {i : Nat} (hi : i < n) : ∃ ad, A = some ad ∧ w.cell? (ad.add i) = some (.int k (xs.getD i 0)) := C_scalar_get 0 h hi
theorem C_len {α : Type} {d : Kd α} {w : World} {A : Option Addr} {n : Nat} {xs : List α} (h : d.C w A n xs) : xs.length = n ∧ n ≤ 9223372036854775807 := ⟨h.1, h.2.1⟩
end Go.Proofs.YtfammikhejjjcaaDoor.Aux
