/- How an argument, read as data, is told by its kind: numbers, bools, strings, slices, structs, types nested in themselves. Over any program. No condition. -/
import Derived.Test.YtfammikhejjjcaaDoorWWords
import Derived.Deep.Slices
import Derived.ChangeArms
import Derived.ProofKit
namespace Go.Proofs.YtfammikhejjjcaaDoor.Open
set_option linter.unusedVariables false
open Go Go.RowKit Go.Proofs.YtfammikhejjjcaaDoorW.PrintWords
/-- Whatever reads as data of type t with fuel n is of the kind k, and good. -/
def Opens {H : Type} (enc : TypeId × Value → H) (P : Program) (w : World) (n : Nat) (t : TypeId) {α : Type} (k : Kd α) (G : α → Prop) : Prop :=
  ∀ cs x, DataW.trod enc P w 0 (fun _ => true) true n t cs = some x → ∃ y, k.K w y cs ∧ G y
section
variable {H : Type} {enc : TypeId × Value → H} {P : Program} {w : World} {n : Nat} {t : TypeId}
theorem opens_int {ik : IntKind} (ht : P.underlying t = some (.int ik)) : Opens enc P w n t (Kd.int ik) (fun x => (Lit.int ik x).wf = true) := by
  intro cs x h
  cases n with
  | zero => simp [DataW.trod] at h
  | succ n =>
    unfold DataW.trod at h
    rw [ht] at h
    split at h <;> simp_all
    obtain ⟨⟨rfl, hw⟩, _⟩ := h
    exact ⟨_, rfl, hw⟩
theorem opens_bool (ht : P.underlying t = some .bool) : Opens enc P w n t Kd.bool (fun _ => True) := by
  intro cs x h
  cases n with
  | zero => simp [DataW.trod] at h
  | succ n =>
    unfold DataW.trod at h
    rw [ht] at h
    split at h
    case h_1 => exact ⟨_, rfl, trivial⟩
    all_goals simp_all
theorem opens_string (ht : P.underlying t = some .string) : Opens enc P w n t Kd.string (fun s => s.size ≤ maxLen) := by
  intro cs x h
  obtain ⟨s, rfl, _, hs⟩ := DataW.trod_string ht h
  exact ⟨s, rfl, hs⟩
theorem list_of {α : Type} {Q : Nat → α → Prop} : ∀ (len : Nat), (∀ i, i < len → ∃ y, Q i y) → ∃ ys : List α, ys.length = len ∧ ∀ i y, ys[i]? = some y → Q i y
  | 0, _ => ⟨[], rfl, fun i y h => by simp at h⟩
  | len + 1, h => by
    obtain ⟨ys, hl, hy⟩ := list_of len (fun i hi => h i (by omega))
    obtain ⟨z, hz⟩ := h len (by omega)
    refine ⟨ys ++ [z], by simp [hl], fun i y hi => ?_⟩
    rcases Nat.lt_or_ge i ys.length with hlt | hge
    · rw [List.getElem?_append_left hlt] at hi; exact hy i y hi
    · rw [List.getElem?_append_right hge] at hi
      rcases Nat.eq_zero_or_pos (i - ys.length) with h0 | h0
      · rw [h0] at hi
        have : z = y := by simpa using hi
        subst this
        rw [show i = len by omega]
        exact hz
      · rw [List.getElem?_eq_none (by simp; omega)] at hi; cases hi
theorem opens_slice {α : Type} {e : TypeId} {e' : Nat} {k : Kd α} {G : α → Prop} (ht : P.underlying t = some (.slice e)) (hsz : P.cellsOf e = k.sz) (h : ∀ m, Opens enc P w m e k G) :
    Opens enc P w n t (Kd.slice e' k) (fun ys => (∀ y ∈ ys, G y) ∧ ys.length ≤ maxLen) := by
  intro cs x hx
  rcases Go.Deep.open_slice ht hx with ⟨rfl, _⟩ | ⟨a, len, cap, m, q, D, Pl, rfl, _, hl, hm, hme, _, hel⟩
  · exact ⟨[], ⟨none, 0, rfl, Nat.le_refl _, Kd.C_nil _ _⟩, fun y hy => by simp at hy, Nat.zero_le _⟩
  · simp only [if_true] at hme
    subst hme
    obtain ⟨ys, hlen, hy⟩ := list_of (Q := fun i y => ∃ cs', cs'.length = k.sz ∧ (∀ j u, cs'[j]? = some u → w.cell? (a.add (i * k.sz + j)) = some u) ∧ k.K w y cs' ∧ G y) len (fun i hi => by
      obtain ⟨cs', hc, ht'⟩ := hel i (by omega)
      obtain ⟨y, hK, hG⟩ := h q cs' _ ht'
      rw [hsz] at hc
      obtain ⟨_, hcl, hcc⟩ := World.cells?_some hc
      exact ⟨y, cs', hcl, fun j u hu => by
        have hjl : j < k.sz := by
          rcases Nat.lt_or_ge j k.sz with h | h
          · exact h
          · rw [List.getElem?_eq_none (by omega)] at hu; cases hu
        have h2 := hcc j hjl
        rw [add_add, hu] at h2
        exact h2, hK, hG⟩)
    refine ⟨ys, ⟨some a, m, by rw [hlen], by omega, rfl, by unfold maxLen at hm; omega, fun hn => ⟨a, rfl, fun j p hp => ?_⟩⟩, fun y hyy => ?_, by omega⟩
    · obtain ⟨c, h1, h2, h3, _⟩ := hy j p hp
      exact ⟨c, h1, h3, h2⟩
    · obtain ⟨i, hi, rfl⟩ := List.getElem_of_mem hyy
      obtain ⟨_, _, _, _, hG⟩ := hy i _ (List.getElem?_eq_getElem hi)
      exact hG
end
end Go.Proofs.YtfammikhejjjcaaDoor.Open
