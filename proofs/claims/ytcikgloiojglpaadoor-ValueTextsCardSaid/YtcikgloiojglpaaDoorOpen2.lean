/- How an argument of a type that is nested in itself is told by its kind: slices whose elements need less fuel. Over any program. No condition. -/
import Derived.Test.YtcikgloiojglpaaDoorOpen
namespace Go.Proofs.YtcikgloiojglpaaDoor.Open
set_option linter.unusedVariables false
open Go Go.RowKit Go.Proofs.YtcikgloiojglpaaDoorW.PrintWords
section
variable {H : Type} {enc : TypeId × Value → H} {P : Program} {w : World} {n : Nat} {t : TypeId}
theorem opens_slice_lt {α : Type} {e : TypeId} {e' : Nat} {k : Kd α} {G : α → Prop} (ht : P.underlying t = some (.slice e)) (hsz : P.cellsOf e = k.sz) (h : ∀ m, m < n → Opens enc P w m e k G) :
    Opens enc P w n t (Kd.slice e' k) (fun ys => (∀ y ∈ ys, G y) ∧ ys.length ≤ maxLen) := by
  intro cs x hx
  rcases DataW.trod_slice ht hx with ⟨rfl, _⟩ | ⟨a, len, cap, elems, rest, m, hfu, rfl, _, hb, hl, hm, hlen, hel, _, _⟩
  · exact ⟨[], ⟨none, 0, rfl, Nat.le_refl _, Kd.C_nil _ _⟩, fun y hy => by simp at hy, Nat.zero_le _⟩
  · obtain ⟨ys, hlen2, hy⟩ := list_of (Q := fun i y => ∃ cs', cs'.length = k.sz ∧ (∀ j u, cs'[j]? = some u → w.cell? (a.add (i * k.sz + j)) = some u) ∧ k.K w y cs' ∧ G y) len (fun i hi => by
      have key := hel i hi
      rw [List.getElem?_eq_getElem (by omega)] at key
      obtain ⟨cs', hc, ht'⟩ := Option.bind_eq_some_iff.1 key
      obtain ⟨y, hK, hG⟩ := h m (by omega) cs' _ ht'
      rw [hsz] at hc
      obtain ⟨_, hcl, hcc⟩ := World.cells?_some hc
      exact ⟨y, cs', hcl, fun j u hu => by
        have hjl : j < k.sz := by
          rcases Nat.lt_or_ge j k.sz with h | h
          · exact h
          · rw [List.getElem?_eq_none (by omega)] at hu; cases hu
        have h2 := hcc j hjl
        rw [add_add, hu] at h2
        exact h2, hK, hG⟩)
    refine ⟨ys, ⟨some a, cap, by rw [hlen2], by omega, rfl, by unfold maxLen at hm; omega, fun hn => ⟨a, rfl, fun j p hp => ?_⟩⟩, fun y hyy => ?_, by omega⟩
    · obtain ⟨c, h1, h2, h3, _⟩ := hy j p hp
      exact ⟨c, h1, h3, h2⟩
    · obtain ⟨i, hi, rfl⟩ := List.getElem_of_mem hyy
      obtain ⟨_, _, _, _, hG⟩ := hy i _ (List.getElem?_eq_getElem hi)
      exact hG
end
theorem i64_range {x : Int} (h : (Lit.int .i64 x).wf = true) : -9223372036854775808 ≤ x ∧ x ≤ 9223372036854775807 := by
  simp [Lit.wf, IntKind.min, IntKind.max, IntKind.bits, IntKind.signed] at h
  omega
theorem u8_range {x : Int} (h : (Lit.int .u8 x).wf = true) : 0 ≤ x ∧ x ≤ 255 := by
  simp [Lit.wf, IntKind.min, IntKind.max, IntKind.bits, IntKind.signed] at h
  omega
end Go.Proofs.YtcikgloiojglpaaDoor.Open
