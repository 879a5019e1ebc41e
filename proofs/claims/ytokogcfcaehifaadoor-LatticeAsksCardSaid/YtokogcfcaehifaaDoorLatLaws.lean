/- Joins and meets of a formed order, in plain words: they do not hang on the order of labels, take one another in, and tell what is below. No program is in sight. No condition. -/
import Derived.Test.YtokogcfcaehifaaDoorBottom
namespace Go.Proofs.YtokogcfcaehifaaDoor.LatLaws
set_option linter.unusedVariables false
open Go Go.Proofs.YtokogcfcaehifaaDoor.LatSpec Go.Proofs.YtokogcfcaehifaaDoor.LatLeq Go.Proofs.YtokogcfcaehifaaDoor.LatJoin Go.Proofs.YtokogcfcaehifaaDoor.Bottom
structure BD (n : Nat) (u : Nat → Nat → Bool) (f : Nat → Nat → Nat) : Prop where
  lt : ∀ a b, a < n → b < n → f a b < n
  left : ∀ a b, a < n → b < n → u a (f a b) = true
  right : ∀ a b, a < n → b < n → u b (f a b) = true
  least : ∀ a b d, a < n → b < n → d < n → u a d = true → u b d = true → u (f a b) d = true
  refl : ∀ a, a < n → u a a = true
  trans : ∀ a b c, a < n → b < n → c < n → u a b = true → u b c = true → u a c = true
  anti : ∀ a b, a < n → b < n → u a b = true → u b a = true → a = b
section
variable {n : Nat} {u : Nat → Nat → Bool} {f : Nat → Nat → Nat}
theorem BD.comm (h : BD n u f) {a b : Nat} (ha : a < n) (hb : b < n) : f a b = f b a :=
  h.anti _ _ (h.lt a b ha hb) (h.lt b a hb ha) (h.least a b _ ha hb (h.lt b a hb ha) (h.right b a hb ha) (h.left b a hb ha)) (h.least b a _ hb ha (h.lt a b ha hb) (h.right a b ha hb) (h.left a b ha hb))
theorem BD.le (h : BD n u f) {a b : Nat} (ha : a < n) (hb : b < n) : u a b = true ↔ f a b = b := by
  constructor
  · intro e
    exact h.anti _ _ (h.lt a b ha hb) hb (h.least a b b ha hb hb e (h.refl b hb)) (h.right a b ha hb)
  · intro e
    have := h.left a b ha hb
    rwa [e] at this
theorem BD.assoc (h : BD n u f) {a b c : Nat} (ha : a < n) (hb : b < n) (hc : c < n) : f (f a b) c = f a (f b c) := by
  have hab := h.lt a b ha hb
  have hbc := h.lt b c hb hc
  have h1 := h.lt _ _ hab hc
  have h2 := h.lt _ _ ha hbc
  refine h.anti _ _ h1 h2 (h.least _ _ _ hab hc h2 (h.least a b _ ha hb h2 (h.left _ _ ha hbc) ?_) ?_) (h.least _ _ _ ha hbc h1 ?_ (h.least b c _ hb hc h1 ?_ (h.right _ _ hab hc)))
  · exact h.trans _ _ _ hb hbc h2 (h.left b c hb hc) (h.right _ _ ha hbc)
  · exact h.trans _ _ _ hc hbc h2 (h.right b c hb hc) (h.right _ _ ha hbc)
  · exact h.trans _ _ _ ha hab h1 (h.left a b ha hb) (h.left _ _ hab hc)
  · exact h.trans _ _ _ hb hab h1 (h.right a b ha hb) (h.left _ _ hab hc)
end
/-- The join, or the meet, as a number. -/
def bn (l : Lat) (ab : Bool) (a b : Nat) : Nat := (boundN l ab a b).toNat
theorem bn_eq {l : Lat} (hf : formedB l = true) (ab : Bool) {a b : Nat} (ha : a < l.names.length) (hb : b < l.names.length) : boundN l ab a b = (bn l ab a b : Int) := by
  have := (bound_ok hf (ab := ab) ha hb).1
  unfold bn
  omega
theorem bn_is {l : Lat} (hf : formedB l = true) (ab : Bool) {a b : Nat} (ha : a < l.names.length) (hb : b < l.names.length) : bn l ab a b < l.names.length ∧ isB l ab a b (bn l ab a b) = true := by
  have h1 := (of_formedB hf).bounds a b ha hb
  have h2 : boundN l ab a b ≠ -1 := by cases ab; exact h1.2; exact h1.1
  unfold bn
  unfold boundN at h2 ⊢
  split at h2
  · rename_i c hc
    have hm := List.mem_of_find?_eq_some hc
    have hp := List.find?_some hc
    rw [List.mem_range] at hm
    exact ⟨by omega, by simpa using hp⟩
  · exact absurd rfl h2
theorem bd {l : Lat} (hf : formedB l = true) (ab : Bool) : BD l.names.length (und l ab) (bn l ab) := by
  have f := of_formedB hf
  have key : ∀ a b, a < l.names.length → b < l.names.length → und l ab a (bn l ab a b) = true ∧ und l ab b (bn l ab a b) = true ∧ ∀ d, d < l.names.length → und l ab a d = true → und l ab b d = true → und l ab (bn l ab a b) d = true := fun a b ha hb => by
    have h := (bn_is hf ab ha hb).2
    simp only [isB, Bool.and_eq_true, List.all_eq_true, List.mem_range] at h
    refine ⟨h.1.1, h.1.2, fun d hd h1 h2 => ?_⟩
    have := h.2 d hd
    rw [h1, h2] at this
    simpa using this
  refine ⟨fun a b ha hb => (bn_is hf ab ha hb).1, fun a b ha hb => (key a b ha hb).1, fun a b ha hb => (key a b ha hb).2.1, fun a b d ha hb hd => (key a b ha hb).2.2 d hd, fun a ha => ?_, fun a b c ha hb hc h1 h2 => ?_, fun a b ha hb h1 h2 => ?_⟩
  · cases ab <;> exact f.refl a ha
  · cases ab
    · exact f.trans c b a hc hb ha h2 h1
    · exact f.trans a b c ha hb hc h1 h2
  · by_cases he : a = b
    · exact he
    · exfalso
      cases ab
      · exact f.anti a b ha hb he h2 h1
      · exact f.anti a b ha hb he h1 h2
theorem join_of {l : Lat} (hf : formedB l = true) (ab : Bool) {a b : Nat} (ha : a < l.names.length) (hb : b < l.names.length) : joinI l ab a b = (bn l ab a b : Int) := by
  rw [joinI, if_pos (right_iff.2 ⟨⟨a, b, rfl, rfl, ha, hb⟩, hf⟩), ← bn_eq hf ab ha hb]
  simp
theorem leq_of {l : Lat} (hf : formedB l = true) {a b : Nat} (ha : a < l.names.length) (hb : b < l.names.length) : leqB l a b = ord l a b := by
  rw [leqB, right_iff.2 ⟨⟨a, b, rfl, rfl, ha, hb⟩, hf⟩]
  simp
/-! ### the ends -/
theorem top_ge {l : Lat} (hf : formedB l = true) : ∀ k, k ≤ l.names.length → ∀ x, x < k → ord l x (topN l k).toNat = true
  | 0, _, x, hx => absurd hx (by omega)
  | k + 1, hk, x, hx => by
    have h0 := topN_ok hf k (by omega)
    have hb := bd hf true
    have ht : (topN l k).toNat < l.names.length := by omega
    have e : (topN l (k + 1)).toNat = bn l true (topN l k).toNat k := rfl
    rw [e]
    have hl := hb.lt _ k ht (by omega)
    rcases Nat.lt_or_ge x k with h | h
    · exact hb.trans _ _ _ (by omega) ht hl (top_ge hf k (by omega) x h) (hb.left _ k ht (by omega))
    · obtain rfl : x = k := by omega
      exact hb.right _ x ht (by omega)
theorem bot_ex {l : Lat} (hf : formedB l = true) : ∀ m, m ≤ l.names.length → ∃ k, k < l.names.length ∧ ∀ y, y < m → ord l k y = true
  | 0, _ => ⟨0, (of_formedB hf).few.1, fun y hy => absurd hy (by omega)⟩
  | m + 1, hm => by
    obtain ⟨k, hk, h⟩ := bot_ex hf m (by omega)
    have hb := bd hf false
    refine ⟨bn l false k m, hb.lt k m hk (by omega), fun y hy => ?_⟩
    have hl := hb.lt k m hk (by omega)
    rcases Nat.lt_or_ge y m with h1 | h1
    · exact hb.trans y k _ (by omega) hk hl (h y h1) (hb.left k m hk (by omega))
    · obtain rfl : y = m := by omega
      exact hb.right k y hk (by omega)
theorem allB_row {l : Lat} (hf : formedB l = true) {k : Nat} (hk : k < l.names.length) : allB (l.order.getD k []) = true ↔ ∀ y, y < l.names.length → ord l k y = true := by
  have hlen : (l.order.getD k []).length = l.names.length := ((of_formedB hf).nm k hk).2.2
  simp only [allB, List.all_eq_true, id, ord]
  generalize l.order.getD k [] = r at hlen ⊢
  constructor
  · intro h y hy
    refine h _ ?_
    rw [List.getD_eq_getElem?_getD, List.getElem?_eq_getElem (by omega)]
    exact List.getElem_mem _
  · intro h x hx
    obtain ⟨y, hy, rfl⟩ := List.getElem_of_mem hx
    have := h y (by omega)
    rw [List.getD_eq_getElem?_getD, List.getElem?_eq_getElem hy] at this
    exact this
theorem bot_of {l : Lat} (hf : formedB l = true) : ∃ k : Nat, botI l = k ∧ k < l.names.length ∧ ∀ y, y < l.names.length → ord l k y = true := by
  obtain ⟨k0, hk0, h0⟩ := bot_ex hf _ (Nat.le_refl _)
  have hsq := (of_formedB hf).sq
  rw [botI, if_pos hf, fullRow]
  cases hfd : (List.range l.order.length).find? (fun k => allB (l.order.getD k [])) with
  | some k =>
    have hm := List.mem_of_find?_eq_some hfd
    have hp := List.find?_some hfd
    rw [List.mem_range] at hm
    exact ⟨k, rfl, by omega, (allB_row hf (by omega)).1 hp⟩
  | none =>
    rw [List.find?_eq_none] at hfd
    exact absurd ((allB_row hf hk0).2 h0) (by simpa using hfd k0 (by simp; omega))
theorem top_of {l : Lat} (hf : formedB l = true) : ∃ k : Nat, topI l = k ∧ k < l.names.length ∧ ∀ y, y < l.names.length → ord l y k = true := by
  have h := topN_ok hf _ (Nat.le_refl l.names.length)
  refine ⟨(topN l l.names.length).toNat, ?_, by omega, fun y hy => top_ge hf _ (Nat.le_refl _) y hy⟩
  rw [topI, if_pos hf]
  omega
end Go.Proofs.YtokogcfcaehifaaDoor.LatLaws
