/- lattice.Bottom and what it calls, each at every input. Condition: the two tables of unicode/utf8 are laid. -/
import Derived.Test.YtokogcfcaehifaaDoorLatJoin
namespace Go.Proofs.YtokogcfcaehifaaDoor.Bottom
set_option linter.unusedVariables false
open Go.RowKit Go.Proofs.YtokogcfcaehifaaDoorW.PrintWords Go.Proofs.YtokogcfcaehifaaDoor.Aux Go.Proofs.YtokogcfcaehifaaDoor.LatSpec Go.Proofs.YtokogcfcaehifaaDoor.LatWalk Go.Proofs.YtokogcfcaehifaaDoor.LatF Go.Proofs.YtokogcfcaehifaaDoor.LatLeq Go.Proofs.YtokogcfcaehifaaDoor.LatJoin
def idxB (xs : List Bool) (v : Bool) : Int := match (List.range xs.length).find? (fun k => decide (xs.getD k false = v)) with | some k => k | none => -1
theorem idxB_found {xs : List Bool} {v : Bool} {k : Nat} (hk : k < xs.length) (h : xs.getD k false = v) (hj : ∀ j, j < k → xs.getD j false ≠ v) : idxB xs v = k := by
  rw [idxB, find_range_some hk (decide_eq_true h) (fun j hjk => decide_eq_false (hj j hjk))]
theorem idxB_none {xs : List Bool} {v : Bool} (hj : ∀ j, j < xs.length → xs.getD j false ≠ v) : idxB xs v = -1 := by
  rw [idxB, List.find?_eq_none.2 (fun j h => by simpa using hj j (by simpa using h))]
theorem idxB_mem {xs : List Bool} {v : Bool} : (0 ≤ idxB xs v) ↔ v ∈ xs := by
  by_cases h : ∃ j, j < xs.length ∧ xs.getD j false = v
  · obtain ⟨j, hj, he⟩ := h
    have hm : v ∈ xs := by
      rw [← he, List.getD_eq_getElem?_getD, List.getElem?_eq_getElem hj]
      exact List.getElem_mem hj
    refine ⟨fun _ => hm, fun _ => ?_⟩
    unfold idxB
    split
    · omega
    · rename_i hn
      rw [List.find?_eq_none] at hn
      exact absurd (hn j (by simpa using hj)) (by simpa using he)
  · have hn : idxB xs v = -1 := idxB_none (fun j hj he => h ⟨j, hj, he⟩)
    rw [hn]
    refine ⟨fun h => by omega, fun hm => ?_⟩
    obtain ⟨j, hj, he⟩ := List.getElem_of_mem hm
    exact absurd ⟨j, hj, by rw [List.getD_eq_getElem?_getD, List.getElem?_eq_getElem hj]; exact he⟩ h
set_option maxHeartbeats 800000 in
theorem indexb_calls (xs : List Bool) (A : Option Addr) (c : Nat) (v : Bool) (w : World) (h : Kd.bool.C w A xs.length xs) :
    Calls Tryd.prog 57 #[.slice A xs.length c, .bool v] w fun e w' => e = .returned (.int .i64 (idxB xs v)) ∧ w = w' := by
  have H := Lib.hid h
  have hm := (C_len h).2
  clear h
  go_enter Tryd.func57, Tryd.ntmps57
  go_wp2_with fail
  go_loopg [8] (xs.length) (fun g i wr => ∃ k : Nat, i = .int .i64 k ∧ k ≤ xs.length ∧ g = xs.length - k ∧ w = wr ∧ Hid (∀ j, j < k → xs.getD j false ≠ v))
  case atStart => exact ⟨0, rfl, Nat.zero_le _, rfl, rfl, Lib.hid (fun j hj => absurd hj (by omega))⟩
  case round =>
    obtain ⟨k, rfl, hk, rfl, rfl, hall⟩ := hrel
    by_cases hlt : k < xs.length
    · obtain ⟨ad, rfl, hc⟩ := C_bool_get H.out hlt
      generalize hx : xs.getD k false = x at *
      have HX := Lib.hid hx
      clear hx
      by_cases he : v = x
      · subst he
        have hs : (v == v) = true := by simp
        have hres := idxB_found hlt HX.out hall.out
        have HRES := Lib.hid hres
        clear hres
        go_wp2
        go_ret
        exact ⟨ret_int HRES.out.symm, rfl⟩
      · have hs : (v == x) = false := beq_eq_false_iff_ne.2 he
        have hno : ∀ j, j < k + 1 → xs.getD j false ≠ v := fun j hj => by
          rcases Nat.lt_or_ge j k with h | h
          · exact hall.out j h
          · obtain rfl : j = k := by omega
            rw [HX.out]
            exact fun e => he e.symm
        have HNO := Lib.hid hno
        clear hno he
        go_wp2
        go_roundg (xs.length - (k + 1))
        case measure => omega
        case rel => exact ⟨k + 1, by go_num, by omega, rfl, rfl, HNO⟩
    · obtain rfl : k = xs.length := by omega
      have hres := idxB_none hall.out
      have HRES := Lib.hid hres
      clear hres
      go_wp2
      go_ret
      exact ⟨ret_int HRES.out.symm, rfl⟩
theorem containsb_calls (xs : List Bool) (A : Option Addr) (c : Nat) (v : Bool) (w : World) (t : Bool) (h : Kd.bool.C w A xs.length xs) (ht : t = true ↔ v ∈ xs) :
    Calls Tryd.prog 46 #[.slice A xs.length c, .bool v] w fun e w' => e = .returned (.bool t) ∧ w = w' := by
  have H := Lib.hid h
  have hm : t = true ↔ 0 ≤ idxB xs v := by rw [ht, idxB_mem]
  clear h ht
  have hcall := indexb_calls xs A c v w H.out
  generalize idxB xs v = i at hm hcall
  have HC := Lib.hid hcall
  clear hcall
  cases t with
  | true =>
    have h0 : 0 ≤ i := by simpa using hm
    clear hm
    go_enter Tryd.func46, Tryd.ntmps46
    go_wp2_with (go_at_call 57; refine HC.out.mono ?_; rintro e wx ⟨rfl, rfl⟩)
    go_ret
    exact ⟨ret_bool (by simp), rfl⟩
  | false =>
    have h0 : i < 0 := by simpa using hm
    clear hm
    go_enter Tryd.func46, Tryd.ntmps46
    go_wp2_with (go_at_call 57; refine HC.out.mono ?_; rintro e wx ⟨rfl, rfl⟩)
    go_ret
    exact ⟨ret_bool (by simp; exact h0), rfl⟩
/-- Is all of a row held? -/
def allB (r : List Bool) : Bool := r.all id
theorem allB_iff {r : List Bool} : allB r = false ↔ false ∈ r := by
  simp only [allB, List.all_eq_false, id]
  constructor
  · rintro ⟨x, hx, h⟩
    cases x
    · exact hx
    · simp at h
  · intro h
    exact ⟨false, h, by simp⟩
set_option maxHeartbeats 800000 in
theorem closure_calls (xs : List Bool) (A : Option Addr) (c : Nat) (w : World) (h : Kd.bool.C w A xs.length xs) (t : Bool) (ht : t = allB xs) :
    Calls Tryd.prog 45 #[.slice A xs.length c] w fun e w' => e = .returned (.bool t) ∧ w = w' := by
  have hc := containsb_calls xs A c false w (!t) h (by rw [ht, Bool.not_eq_true', allB_iff])
  have HC := Lib.hid hc
  clear hc h ht
  go_enter Tryd.func45, Tryd.ntmps45
  go_wp2_with (go_at_call 46; refine HC.out.mono ?_; rintro e wx ⟨rfl, rfl⟩)
  go_ret
  exact ⟨ret_bool (by simp), rfl⟩
/-- The first row that is wholly held; -1: there is none. -/
def fullRow (rows : List (List Bool)) : Int := match (List.range rows.length).find? (fun k => allB (rows.getD k [])) with | some k => k | none => -1
theorem full_found {rows : List (List Bool)} {k : Nat} (hk : k < rows.length) (h : allB (rows.getD k []) = true) (hj : ∀ j, j < k → allB (rows.getD j []) = false) : fullRow rows = k := by
  rw [fullRow, find_range_some hk h hj]
theorem full_none {rows : List (List Bool)} (hj : ∀ j, j < rows.length → allB (rows.getD j []) = false) : fullRow rows = -1 := by
  rw [fullRow, List.find?_eq_none.2 (fun j h => by rw [hj j (by simpa using h)]; simp)]
set_option maxHeartbeats 800000 in
theorem indexfunc_calls (rows : List (List Bool)) (A : Option Addr) (c : Nat) (w : World) (h : (Kd.slice 4 Kd.bool).C w A rows.length rows) :
    Calls Tryd.prog 44 #[.slice A rows.length c, .func (.func 45) #[] #[]] w fun e w' => e = .returned (.int .i64 (fullRow rows)) ∧ w = w' := by
  have H := Lib.hid h
  have hm := (C_len h).2
  clear h
  go_enter Tryd.func44, Tryd.ntmps44
  go_wp2_with fail
  go_loopg [8] (rows.length) (fun g i wr => ∃ k : Nat, i = .int .i64 k ∧ k ≤ rows.length ∧ g = rows.length - k ∧ w = wr ∧ Hid (∀ j, j < k → allB (rows.getD j []) = false))
  case atStart => exact ⟨0, rfl, Nat.zero_le _, rfl, rfl, Lib.hid (fun j hj => absurd hj (by omega))⟩
  case round =>
    obtain ⟨k, rfl, hk, rfl, rfl, hall⟩ := hrel
    by_cases hlt : k < rows.length
    · obtain ⟨ad, A', c', rfl, hcell, _, hC⟩ := C_slice_get H.out hlt
      obtain ⟨t, ht⟩ : ∃ t, t = allB (rows.getD k []) := ⟨_, rfl⟩
      have HT0 := Lib.hid ht
      generalize rows.getD k [] = r at hcell hC ht
      have hcl := closure_calls _ A' c' w hC t ht
      have HC := Lib.hid hcl
      have HT := HT0
      clear hcl hC ht
      cases t with
      | true =>
        have hres := full_found hlt HT.out.symm hall.out
        have HRES := Lib.hid hres
        clear hres
        go_wp2_with (go_at_call 45; refine HC.out.mono ?_; rintro e wx ⟨rfl, rfl⟩)
        go_ret
        exact ⟨ret_int HRES.out.symm, rfl⟩
      | false =>
        have hno : ∀ j, j < k + 1 → allB (rows.getD j []) = false := fun j hj => by
          rcases Nat.lt_or_ge j k with h | h
          · exact hall.out j h
          · obtain rfl : j = k := by omega
            exact HT.out.symm
        have HNO := Lib.hid hno
        clear hno
        go_wp2_with (go_at_call 45; refine HC.out.mono ?_; rintro e wx ⟨rfl, rfl⟩)
        go_roundg (rows.length - (k + 1))
        case measure => omega
        case rel => exact ⟨k + 1, by go_num, by omega, rfl, rfl, HNO⟩
    · obtain rfl : k = rows.length := by omega
      have hres := full_none hall.out
      have HRES := Lib.hid hres
      clear hres
      go_wp2
      go_ret
      exact ⟨ret_int HRES.out.symm, rfl⟩
noncomputable def botI (l : Lat) : Int := if formedB l then fullRow l.order else -1
set_option maxHeartbeats 800000 in
theorem bottom_calls (l : Lat) (A B : Option Addr) (c d : Nat) (w : World) (h : LR w l A c B d) (hs : Ns l) (hT : Tb w) :
    Calls Tryd.prog 21 #[.agg #[.slice A l.names.length c, .slice B l.order.length d]] w fun e w' => e = .returned (.int .i64 (botI l)) ∧ Below w.heap.size w w' := by
  have hF := boxed (n := l.names.length) (m := l.order.length) h hT
  obtain ⟨c0, c1, hl, hbw, htb⟩ := hF _ (Below.refl _ _)
  have hcall := formed_c l A B c d _ hl hs htb
  have HF := Lib.hid hF
  have HBW := Lib.hid hbw
  obtain ⟨t, ht⟩ : ∃ t, t = formedB l := ⟨_, rfl⟩
  rw [← ht] at hcall
  have HCALL := Lib.hid hcall
  clear hcall hF hl htb hbw h hs hT
  cases t with
  | false =>
    have hres : botI l = -1 := by rw [botI, ← ht]; rfl
    have HRES := Lib.hid hres
    clear hres ht
    go_enter Tryd.func21, Tryd.ntmps21
    go_wp2_with (go_at_call 11; refine HCALL.out.mono ?_; rintro e w3 ⟨rfl, hb3⟩)
    go_ret
    exact ⟨ret_int HRES.out.symm, below_step HBW.out hb3⟩
  | true =>
    have hres : botI l = fullRow l.order := by rw [botI, ← ht]; rfl
    have HRES := Lib.hid hres
    clear hres ht c0 c1
    go_enter Tryd.func21, Tryd.ntmps21
    go_wp2_with fail
    refine HCALL.out.mono ?_
    rintro e w3 ⟨rfl, hb3⟩
    obtain ⟨c0, c1, hl, hbw, htb⟩ := HF.out _ hb3
    have hix := indexfunc_calls l.order B d _ hl.2.2.2
    have HIX := Lib.hid hix
    have HBW3 := Lib.hid hbw
    clear hix hl hbw htb hb3
    go_wp2_with (go_at_call 44; refine HIX.out.mono ?_; rintro e w4 ⟨rfl, rfl⟩)
    go_ret
    exact ⟨ret_int HRES.out.symm, HBW3.out⟩
end Go.Proofs.YtokogcfcaehifaaDoor.Bottom
