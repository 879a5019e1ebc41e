/- The least order that holds a list of pairs, in plain words: what Make answers, and that there is one answer. No program is in sight. No condition. -/
import Derived.Test.YtokogcfcaehifaaDoorLatSpec2
namespace Go.Proofs.YtokogcfcaehifaaDoor.MakeSpec
set_option linter.unusedVariables false
open Go Go.Proofs.YtokogcfcaehifaaDoor.LatSpec
def initM (pairs : List (Int × Int)) : Nat → Nat → Bool := fun x y => decide (x = y) || pairs.any fun p => decide (p.1 = (x : Int)) && decide (p.2 = (y : Int))
def okP (n : Nat) (p : Int × Int) : Prop := 0 ≤ p.1 ∧ 0 ≤ p.2 ∧ p.1 < n ∧ p.2 < n
def upd (M : Nat → Nat → Bool) (a b : Nat) (t : Bool) : Nat → Nat → Bool := fun x y => if x = a ∧ y = b then t else M x y
def TransM (n : Nat) (M : Nat → Nat → Bool) : Prop := ∀ x y z, x < n → y < n → z < n → M x y = true → M y z = true → M x z = true
def SubM (n : Nat) (M T : Nat → Nat → Bool) : Prop := ∀ x y, x < n → y < n → M x y = true → T x y = true
structure IsClo (n : Nat) (I M : Nat → Nat → Bool) : Prop where
  sub : SubM n I M
  trans : TransM n M
  least : ∀ T, SubM n I T → TransM n T → SubM n M T
theorem IsClo.unique {n : Nat} {I M M' : Nat → Nat → Bool} (h : IsClo n I M) (h' : IsClo n I M') (x y : Nat) (hx : x < n) (hy : y < n) : M x y = M' x y := by
  have h1 := h.least M' h'.sub h'.trans x y hx hy
  have h2 := h'.least M h.sub h.trans x y hx hy
  cases e1 : M x y <;> cases e2 : M' x y <;> simp_all
def latOf (names : List ByteArray) (M : Nat → Nat → Bool) : Lat := ⟨names, (List.range names.length).map fun i => (List.range names.length).map (M i)⟩
theorem latOf_congr {names : List ByteArray} {M M' : Nat → Nat → Bool} (h : ∀ x y, x < names.length → y < names.length → M x y = M' x y) : latOf names M = latOf names M' := by
  unfold latOf
  congr 1
  refine List.map_congr_left fun i hi => List.map_congr_left fun j hj => h i j (by simpa using hi) (by simpa using hj)
theorem latOf_row (names : List ByteArray) (M : Nat → Nat → Bool) {i : Nat} (hi : i < names.length) : (latOf names M).order.getD i [] = (List.range names.length).map (M i) := by
  simp [latOf, hi]
theorem latOf_ord (names : List ByteArray) (M : Nat → Nat → Bool) {i j : Nat} (hi : i < names.length) (hj : j < names.length) : ord (latOf names M) i j = M i j := by
  rw [ord, latOf_row names M hi]
  simp [hj]
def noLat : Lat := ⟨[], []⟩
/-- What Make answers. -/
def MakeSaid (names : List ByteArray) (pairs : List (Int × Int)) (l : Lat) (err : Int) : Prop :=
  (¬ (names.length ≤ 8 ∧ pairs.length ≤ 64) ∧ l = noLat ∧ err = 1) ∨
  (names.length ≤ 8 ∧ pairs.length ≤ 64 ∧ (¬ ∀ p ∈ pairs, okP names.length p) ∧ l = noLat ∧ err = 10) ∨
  (names.length ≤ 8 ∧ pairs.length ≤ 64 ∧ (∀ p ∈ pairs, okP names.length p) ∧ ∃ M, IsClo names.length (initM pairs) M ∧ ((formedB (latOf names M) = true ∧ l = latOf names M ∧ err = 0) ∨ (formedB (latOf names M) = false ∧ l = noLat ∧ err = 4)))
theorem MakeSaid.unique {names : List ByteArray} {pairs : List (Int × Int)} {l l' : Lat} {e e' : Int} (h : MakeSaid names pairs l e) (h' : MakeSaid names pairs l' e') : l = l' ∧ e = e' := by
  rcases h with ⟨h1, rfl, rfl⟩ | ⟨h1, h2, h3, rfl, rfl⟩ | ⟨h1, h2, h3, M, hM, h4⟩
  · rcases h' with ⟨_, rfl, rfl⟩ | ⟨g1, g2, _⟩ | ⟨g1, g2, _⟩
    · exact ⟨rfl, rfl⟩
    · exact absurd ⟨g1, g2⟩ h1
    · exact absurd ⟨g1, g2⟩ h1
  · rcases h' with ⟨g1, _⟩ | ⟨g1, g2, g3, rfl, rfl⟩ | ⟨g1, g2, g3, _⟩
    · exact absurd ⟨h1, h2⟩ g1
    · exact ⟨rfl, rfl⟩
    · exact absurd g3 h3
  · rcases h' with ⟨g1, _⟩ | ⟨g1, g2, g3, _⟩ | ⟨g1, g2, g3, M', hM', g4⟩
    · exact absurd ⟨h1, h2⟩ g1
    · exact absurd h3 g3
    · have e := latOf_congr (names := names) (hM.unique hM')
      rw [e] at h4
      rcases h4 with ⟨a1, rfl, rfl⟩ | ⟨a1, rfl, rfl⟩ <;> rcases g4 with ⟨b1, rfl, rfl⟩ | ⟨b1, rfl, rfl⟩
      · exact ⟨rfl, rfl⟩
      · rw [a1] at b1; cases b1
      · rw [a1] at b1; cases b1
      · exact ⟨rfl, rfl⟩
/-! ### pairs, one by one -/
theorem initM_zero (x y : Nat) : initM [] x y = decide (x = y) := by simp [initM]
theorem initM_snoc {ps : List (Int × Int)} {p : Int × Int} {a b : Nat} (h1 : p.1 = a) (h2 : p.2 = b) (x y : Nat) : initM (ps ++ [p]) x y = upd (initM ps) a b true x y := by
  simp only [initM, List.any_append, List.any_cons, List.any_nil, Bool.or_false, upd, h1, h2]
  by_cases h : x = a ∧ y = b
  · obtain ⟨rfl, rfl⟩ := h
    simp
  · rw [if_neg h]
    have : (decide ((a : Int) = (x : Int)) && decide ((b : Int) = (y : Int))) = false := by
      simp only [Bool.and_eq_false_iff, decide_eq_false_iff_not]
      omega
    rw [this, Bool.or_false]
theorem getD_mem {ps : List (Int × Int)} {m : Nat} (h : m < ps.length) : ps.getD m (0, 0) ∈ ps := by
  rw [List.getD_eq_getElem?_getD, List.getElem?_eq_getElem h]; exact List.getElem_mem h
theorem take_snoc {ps : List (Int × Int)} {m : Nat} (h : m < ps.length) : ps.take (m + 1) = ps.take m ++ [ps.getD m (0, 0)] := by
  rw [List.take_succ_eq_append_getElem h, List.getD_eq_getElem?_getD, List.getElem?_eq_getElem h]; rfl
/-! ### by way of one label more at a time -/
structure Via (n : Nat) (I M : Nat → Nat → Bool) (c : Nat) : Prop where
  sub : SubM n I M
  refl : ∀ x, x < n → M x x = true
  least : ∀ T, SubM n I T → TransM n T → SubM n M T
  via : ∀ k, k < c → ∀ x z, x < n → z < n → M x k = true → M k z = true → M x z = true
def stepM (M : Nat → Nat → Bool) (c : Nat) : Nat → Nat → Bool := fun x y => M x y || (M x c && M c y)
theorem Via.start {n : Nat} {pairs : List (Int × Int)} : Via n (initM pairs) (initM pairs) 0 :=
  ⟨fun _ _ _ _ h => h, fun x _ => by simp [initM], fun T h _ => h, fun k hk => absurd hk (by omega)⟩
theorem Via.step {n : Nat} {I M : Nat → Nat → Bool} {c : Nat} (h : Via n I M c) (hc : c < n) : Via n I (stepM M c) (c + 1) := by
  refine ⟨fun x y hx hy hi => by simp [stepM, h.sub x y hx hy hi], fun x hx => by simp [stepM, h.refl x hx], fun T hT hTt x y hx hy hs => ?_, fun k hk x z hx hz h1 h2 => ?_⟩
  · simp only [stepM, Bool.or_eq_true, Bool.and_eq_true] at hs
    rcases hs with hs | ⟨h1, h2⟩
    · exact h.least T hT hTt x y hx hy hs
    · exact hTt x c y hx hc hy (h.least T hT hTt x c hx hc h1) (h.least T hT hTt c y hc hy h2)
  · simp only [stepM, Bool.or_eq_true, Bool.and_eq_true] at h1 h2 ⊢
    rcases Nat.lt_or_ge k c with hkc | hge
    · have v := h.via k hkc
      rcases h1 with h1 | ⟨h1, h3⟩ <;> rcases h2 with h2 | ⟨h2, h4⟩
      · exact .inl (v x z hx hz h1 h2)
      · exact .inr ⟨v x c hx hc h1 h2, h4⟩
      · exact .inr ⟨h1, v c z hc hz h3 h2⟩
      · exact .inr ⟨h1, h4⟩
    · obtain rfl : k = c := by omega
      have g1 : M x k = true := h1.elim id (fun h => h.1)
      have g2 : M k z = true := h2.elim id (fun h => h.2)
      exact .inr ⟨g1, g2⟩
theorem Via.clo {n : Nat} {I M : Nat → Nat → Bool} (h : Via n I M n) : IsClo n I M :=
  ⟨h.sub, fun x y z hx hy hz h1 h2 => h.via y hy x z hx hz h1 h2, h.least⟩
theorem Via.congr {n : Nat} {I M M' : Nat → Nat → Bool} {c : Nat} (h : Via n I M c) (hc : c ≤ n) (he : ∀ x y, x < n → y < n → M x y = M' x y) : Via n I M' c :=
  ⟨fun x y hx hy hi => by rw [← he x y hx hy]; exact h.sub x y hx hy hi, fun x hx => by rw [← he x x hx hx]; exact h.refl x hx, fun T hT hTt x y hx hy hs => h.least T hT hTt x y hx hy (by rw [he x y hx hy]; exact hs),
    fun k hk x z hx hz h1 h2 => by rw [← he x z hx hz]; exact h.via k hk x z hx hz (by rw [he x k hx (by omega)]; exact h1) (by rw [he k z (by omega) hz]; exact h2)⟩
/-- In the midst of a step: the places ahead of (a, b) are done. -/
def curM (M : Nat → Nat → Bool) (c a b : Nat) : Nat → Nat → Bool := fun x y => if x < a ∨ (x = a ∧ y < b) then stepM M c x y else M x y
theorem cur_here (M : Nat → Nat → Bool) (c a b : Nat) : curM M c a b a b = M a b := by unfold curM; rw [if_neg (by omega)]
theorem cur_left {M : Nat → Nat → Bool} {c : Nat} (hc : M c c = true) (a b x : Nat) : curM M c a b x c = M x c := by
  unfold curM stepM
  split
  · rw [hc]; cases M x c <;> rfl
  · rfl
theorem cur_right {M : Nat → Nat → Bool} {c : Nat} (hc : M c c = true) (a b y : Nat) : curM M c a b c y = M c y := by
  unfold curM stepM
  split
  · rw [hc]; cases M c y <;> rfl
  · rfl
theorem cur_next (M : Nat → Nat → Bool) (c a b : Nat) (x y : Nat) : upd (curM M c a b) a b (stepM M c a b) x y = curM M c a (b + 1) x y := by
  unfold upd curM
  by_cases h : x = a ∧ y = b
  · obtain ⟨rfl, rfl⟩ := h
    rw [if_pos ⟨rfl, rfl⟩, if_pos (by omega)]
  · rw [if_neg h]
    by_cases h2 : x < a ∨ (x = a ∧ y < b)
    · rw [if_pos h2, if_pos (by omega)]
    · rw [if_neg h2, if_neg (by omega)]
theorem cur_row (M : Nat → Nat → Bool) (c a n : Nat) (x y : Nat) (hy : y < n) : curM M c a n x y = curM M c (a + 1) 0 x y := by
  unfold curM
  by_cases h2 : x < a ∨ (x = a ∧ y < n)
  · rw [if_pos h2, if_pos (by omega)]
  · rw [if_neg h2, if_neg (by omega)]
theorem cur_zero (M : Nat → Nat → Bool) (c : Nat) (x y : Nat) : M x y = curM M c 0 0 x y := by unfold curM; rw [if_neg (by omega)]
theorem cur_all (M : Nat → Nat → Bool) (c n : Nat) (x y : Nat) (hx : x < n) : curM M c n 0 x y = stepM M c x y := by unfold curM; rw [if_pos (by omega)]
end Go.Proofs.YtokogcfcaehifaaDoor.MakeSpec
