/- The least order by rounds until nothing more comes, in plain words. No program is in sight. No condition. -/
import Derived.Test.YtokogcfcaehifaaDoorMakeSpec
namespace Go.Proofs.YtokogcfcaehifaaDoor.MakeSpec
set_option linter.unusedVariables false
open Go Go.Proofs.YtokogcfcaehifaaDoor.LatSpec
theorem countP_lt {p q : Nat → Bool} : ∀ (L : List Nat), (∀ i ∈ L, q i = true → p i = true) → (∃ i ∈ L, p i = true ∧ q i = false) → L.countP q < L.countP p
  | [], _, h => by obtain ⟨i, hi, _⟩ := h; simp at hi
  | j :: L, h1, h2 => by
    have hle : ∀ (L : List Nat), (∀ i ∈ L, q i = true → p i = true) → L.countP q ≤ L.countP p := fun L h => List.countP_mono_left h
    rw [List.countP_cons, List.countP_cons]
    obtain ⟨i, hi, hp, hq⟩ := h2
    have hL := hle L (fun i hi => h1 i (List.mem_cons_of_mem _ hi))
    rcases List.mem_cons.1 hi with rfl | hi
    · rw [hp, hq]; simp; omega
    · have := countP_lt L (fun i hi => h1 i (List.mem_cons_of_mem _ hi)) ⟨i, hi, hp, hq⟩
      have hj := h1 j List.mem_cons_self
      cases hqj : q j
      · simp; omega
      · rw [hj hqj]; simp; omega
/-- How many places are not yet held. -/
def cnt (n : Nat) (M : Nat → Nat → Bool) : Nat := (List.range (n * n)).countP fun i => !M (i / n) (i % n)
theorem cnt_upd {n a b : Nat} {M : Nat → Nat → Bool} (ha : a < n) (hb : b < n) (h : M a b = false) : cnt n (upd M a b true) < cnt n M := by
  refine countP_lt _ (fun i _ hq => ?_) ⟨a * n + b, ?_, ?_, ?_⟩
  · simp only [upd] at hq
    by_cases he : i / n = a ∧ i % n = b
    · rw [if_pos he] at hq; simp at hq
    · rw [if_neg he] at hq; exact hq
  · rw [List.mem_range]
    have : a * n + n ≤ n * n := by rw [← Nat.succ_mul]; exact Nat.mul_le_mul_right _ ha
    omega
  all_goals
    have e1 : (a * n + b) / n = a := by rw [Nat.mul_comm, Nat.mul_add_div (by omega), Nat.div_eq_of_lt hb]; omega
    have e2 : (a * n + b) % n = b := by rw [Nat.mul_comm, Nat.mul_add_mod, Nat.mod_eq_of_lt hb]
    simp only [e1, e2]
  · rw [h]; rfl
  · simp [upd]
/-- What every round keeps. -/
structure Held (n : Nat) (I M : Nat → Nat → Bool) : Prop where
  sub : SubM n I M
  least : ∀ T, SubM n I T → TransM n T → SubM n M T
theorem Held.start {n : Nat} {I : Nat → Nat → Bool} : Held n I I := ⟨fun _ _ _ _ h => h, fun T h _ => h⟩
theorem Held.upd {n a b c : Nat} {I M : Nat → Nat → Bool} (h : Held n I M) (ha : a < n) (hb : b < n) (hc : c < n) (h1 : M a b = true) (h2 : M b c = true) : Held n I (upd M a c true) := by
  refine ⟨fun x y hx hy hi => ?_, fun T hT hTt x y hx hy hm => ?_⟩
  · unfold MakeSpec.upd
    split
    · rfl
    · exact h.sub x y hx hy hi
  · unfold MakeSpec.upd at hm
    split at hm
    · rename_i he
      obtain ⟨rfl, rfl⟩ := he
      exact hTt _ b _ hx hb hy (h.least T hT hTt _ b hx hb h1) (h.least T hT hTt b _ hb hy h2)
    · exact h.least T hT hTt x y hx hy hm
/-- All places ahead of (a, b, c) have been looked at, and nothing was wanting. -/
def Seen (n : Nat) (M : Nat → Nat → Bool) (a b c : Nat) : Prop := ∀ x y z, x < n → y < n → z < n → (x < a ∨ (x = a ∧ (y < b ∨ (y = b ∧ z < c)))) → M x y = true → M y z = true → M x z = true
theorem Seen.zero {n : Nat} {M : Nat → Nat → Bool} : Seen n M 0 0 0 := fun x y z _ _ _ h => by omega
theorem Seen.next {n : Nat} {M : Nat → Nat → Bool} {a b c : Nat} (h : Seen n M a b c) (h1 : M a b = true → M b c = true → M a c = true) : Seen n M a b (c + 1) := fun x y z hx hy hz hp => by
  by_cases he : x = a ∧ y = b ∧ z = c
  · obtain ⟨rfl, rfl, rfl⟩ := he
    exact h1
  · exact h x y z hx hy hz (by omega)
theorem Seen.row {n : Nat} {M : Nat → Nat → Bool} {a b : Nat} (h : Seen n M a b n) : Seen n M a (b + 1) 0 := fun x y z hx hy hz hp => h x y z hx hy hz (by omega)
theorem Seen.col {n : Nat} {M : Nat → Nat → Bool} {a : Nat} (h : Seen n M a n 0) : Seen n M (a + 1) 0 0 := fun x y z hx hy hz hp => h x y z hx hy hz (by omega)
theorem Seen.all {n : Nat} {M : Nat → Nat → Bool} (h : Seen n M n 0 0) : TransM n M := fun x y z hx hy hz => h x y z hx hy hz (by omega)
theorem Held.clo {n : Nat} {I M : Nat → Nat → Bool} (h : Held n I M) (ht : TransM n M) : IsClo n I M := ⟨h.sub, ht, h.least⟩
/-- Where a round stands: nothing was set, and all ahead was looked at; or something was set. -/
def Round (n : Nat) (M0 M : Nat → Nat → Bool) (more : Bool) (a b c : Nat) : Prop := (more = false ∧ M = M0 ∧ Seen n M0 a b c) ∨ (more = true ∧ cnt n M < cnt n M0)
end Go.Proofs.YtokogcfcaehifaaDoor.MakeSpec
