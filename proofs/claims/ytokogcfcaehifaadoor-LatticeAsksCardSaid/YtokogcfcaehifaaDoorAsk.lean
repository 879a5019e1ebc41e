/- What the laws of layer 1 call beside Leq, Join, Meet, Bottom and Top of the program: Label, Leq, Join, Meet, Both, Bottom, Top, Below, SameInts of the reference; Both, Find, Below of the program. Condition: the two tables of unicode/utf8 are laid. -/
import Derived.Test.YtokogcfcaehifaaDoorSame
import Derived.Test.YtokogcfcaehifaaDoorLatLaws
import Derived.Test.YtokogcfcaehifaaDoorRefFormed
import Derived.Test.YtokogcfcaehifaaDoorMat
namespace Go.Proofs.YtokogcfcaehifaaDoor.Ask
set_option linter.unusedVariables false
open Go.RowKit Go.Proofs.YtokogcfcaehifaaDoorW.PrintWords Go.Proofs.YtokogcfcaehifaaDoor.Aux Go.Proofs.YtokogcfcaehifaaDoor.LatSpec Go.Proofs.YtokogcfcaehifaaDoor.LatWalk Go.Proofs.YtokogcfcaehifaaDoor.LatF Go.Proofs.YtokogcfcaehifaaDoor.LatLeq Go.Proofs.YtokogcfcaehifaaDoor.LatJoin Go.Proofs.YtokogcfcaehifaaDoor.Bottom Go.Proofs.YtokogcfcaehifaaDoor.LatLaws Go.Proofs.YtokogcfcaehifaaDoor.SameW
section
variable {l : Lat} {A B : Option Addr} {c d : Nat} {w : World}
/-- A call that takes a boxed lattice leaves the box as it is. -/
theorem kept (h : LR w l A c B d) (hT : Tb w) {f : Nat} {args : Array Value} {Q : Ending → World → Prop} (hc : ∀ W, LR W l A c B d → Tb W → Calls Tryd.prog f args W fun e w' => Q e w' ∧ Below W.heap.size W w') :
    ∀ W, Below (w.alloc (.cells #[.slice A l.names.length c, .slice B l.order.length d] 25)).heap.size (w.alloc (.cells #[.slice A l.names.length c, .slice B l.order.length d] 25)) W → Calls Tryd.prog f args W fun e w' => Q e w' ∧ Below (w.alloc (.cells #[.slice A l.names.length c, .slice B l.order.length d] 25)).heap.size (w.alloc (.cells #[.slice A l.names.length c, .slice B l.order.length d] 25)) w' ∧ w'.cell? ⟨w.heap.size, 0, none⟩ = some (.slice A l.names.length c) ∧ w'.cell? ⟨w.heap.size, 1, none⟩ = some (.slice B l.order.length d) ∧ Below w.heap.size w w' := fun W hW => by
  obtain ⟨_, _, hl, _, htb⟩ := boxed (n := l.names.length) (m := l.order.length) h hT W hW
  refine (hc W hl htb).mono ?_
  rintro e w' ⟨he, hb⟩
  obtain ⟨k0, k1, _, hbw, _⟩ := boxed (n := l.names.length) (m := l.order.length) h hT w' (below_step hW hb)
  exact ⟨he, below_step hW hb, k0, k1, hbw⟩
theorem kept2 (h : LR w l A c B d) (hT : Tb w) {f : Nat} {args : Array Value} {Q : Ending → World → Prop} (hc : ∀ W, LR W l A c B d → Tb W → Calls Tryd.prog f args W fun e w' => Q e w' ∧ Below W.heap.size W w') :
    ∀ W, Below (w.alloc (.cells #[.slice A l.names.length c, .slice B l.order.length d] 25)).heap.size (w.alloc (.cells #[.slice A l.names.length c, .slice B l.order.length d] 25)) W → Calls Tryd.prog f args W fun e w' => Q e w' ∧ Below (w.alloc (.cells #[.slice A l.names.length c, .slice B l.order.length d] 25)).heap.size (w.alloc (.cells #[.slice A l.names.length c, .slice B l.order.length d] 25)) w' ∧ w'.cell? ⟨w.heap.size, 0, none⟩ = some (.slice A l.names.length c) ∧ w'.cell? ⟨w.heap.size, 1, none⟩ = some (.slice B l.order.length d) ∧ Below W.heap.size W w' := fun W hW => by
  obtain ⟨_, _, hl, _, htb⟩ := boxed (n := l.names.length) (m := l.order.length) h hT W hW
  refine (hc W hl htb).mono ?_
  rintro e w' ⟨he, hb⟩
  obtain ⟨k0, k1, _, hbw, _⟩ := boxed (n := l.names.length) (m := l.order.length) h hT w' (below_step hW hb)
  exact ⟨he, below_step hW hb, k0, k1, hb⟩
def labI (l : Lat) (a : Int) : Bool := decide (0 ≤ a) && decide (a < l.names.length)
theorem labI_true {a : Int} (h : labI l a = true) : ∃ x : Nat, a = x ∧ x < l.names.length := by
  simp only [labI, Bool.and_eq_true, decide_eq_true_eq] at h
  exact ⟨a.toNat, by omega, by omega⟩
theorem labI_nat {x : Nat} (h : x < l.names.length) : labI l x = true := by
  simp only [labI, Bool.and_eq_true, decide_eq_true_eq]
  omega
theorem right_lab {xs : List Int} {a : Int} (ha : a ∈ xs) (h : labI l a = false) : rightB l xs = false := by
  have : labB l xs = false := by
    rw [labB, List.all_eq_false]
    exact ⟨a, ha, by rw [show (decide (0 ≤ a) && decide (a < (l.names.length : Int))) = labI l a from rfl, h]; simp⟩
  rw [rightB, this]; rfl
theorem right_form {xs : List Int} (h : formedB l = false) : rightB l xs = false := by rw [rightB, h, Bool.and_false]
theorem right_one {a : Int} (h1 : labI l a = true) (h2 : formedB l = true) : rightB l [a] = true := by
  have : labB l [a] = labI l a := by simp [labB, labI]
  rw [rightB, this, h1, h2]; rfl
theorem right_two {a b : Int} (h1 : labI l a = true) (h2 : labI l b = true) (h3 : formedB l = true) : rightB l [a, b] = true := by
  have : labB l [a, b] = (labI l a && labI l b) := by simp [labB, labI]
  rw [rightB, this, h1, h2, h3]; rfl
theorem label_calls (l : Lat) (A B : Option Addr) (c d : Nat) (a : Int) (w : World) (h : LR w l A c B d) (t : Bool) (ht : labI l a = t) :
    Calls Tryd.prog 52 #[.agg #[.slice A l.names.length c, .slice B l.order.length d], .int .i64 a] w fun e w' => e = .returned (.bool t) ∧ Below w.heap.size w w' := by
  have hm := (C_len h.2.2.1).2
  have HT := Lib.hid ht
  clear h ht
  by_cases h0 : 0 ≤ a
  · by_cases h1 : a < l.names.length
    · go_enter Tryd.func52, Tryd.ntmps52
      go_wp2
      go_ret
      exact ⟨ret_bool (by rw [← HT.out]; simp [labI, h0, h1]), below_alloc (Below.refl _ _) _⟩
    · go_enter Tryd.func52, Tryd.ntmps52
      go_wp2
      go_ret
      exact ⟨ret_bool (by rw [← HT.out]; simp [labI, h0]; omega), below_alloc (Below.refl _ _) _⟩
  · go_enter Tryd.func52, Tryd.ntmps52
    go_wp2
    go_ret
    exact ⟨ret_bool (by rw [← HT.out]; simp [labI]; omega), below_alloc (Below.refl _ _) _⟩
theorem refformed_c (l : Lat) (A B : Option Addr) (c d : Nat) (w : World) (h : LR w l A c B d) (hs : Ns l) (t : Bool) (ht : formedB l = t) :
    Calls Tryd.prog 12 #[.agg #[.slice A l.names.length c, .slice B l.order.length d]] w fun e w' => e = .returned (.bool t) ∧ Below w.heap.size w w' := by
  rw [← ht]
  exact RefFormed.formed_calls l A B c d w h hs
set_option maxRecDepth 100000 in
set_option maxHeartbeats 1600000 in
theorem refleq_calls (l : Lat) (A B : Option Addr) (c d : Nat) (a b : Int) (w : World) (h : LR w l A c B d) (hs : Ns l) (hT : Tb w) :
    Calls Tryd.prog 26 #[.agg #[.slice A l.names.length c, .slice B l.order.length d], .int .i64 a, .int .i64 b] w fun e w' => e = .returned (.bool (leqB l a b)) ∧ Below w.heap.size w w' := by
  have KLAB := Lib.hid (fun a t (ht : labI l a = t) => kept (Q := fun e _ => e = .returned (.bool t)) h hT (fun W hl _ => label_calls l A B c d a W hl t ht))
  obtain ⟨f, hf⟩ : ∃ f, f = formedB l := ⟨_, rfl⟩
  have KF := Lib.hid (kept (Q := fun e _ => e = .returned (.bool f)) h hT (fun W hl _ => refformed_c l A B c d W hl hs f hf.symm))
  have hF := boxed (n := l.names.length) (m := l.order.length) h hT
  obtain ⟨c0, c1, hl0, hbw0, _⟩ := hF _ (Below.refl _ _)
  have hb0 := Below.refl (w.alloc (.cells #[.slice A l.names.length c, .slice B l.order.length d] 25)).heap.size (w.alloc (.cells #[.slice A l.names.length c, .slice B l.order.length d] 25))
  have HF := Lib.hid hF
  have HBW := Lib.hid hbw0
  have HFM := Lib.hid hf
  have hmn := (C_len h.2.2.1).2
  have hmo := (C_len h.2.2.2).2
  clear hF hl0 hbw0 h hs hT hf
  cases h1 : labI l a with
  | false =>
    have H1 := Lib.hid h1
    have HRES := Lib.hid (show leqB l a b = false by rw [leqB, right_lab (a := a) (by simp) h1]; rfl)
    clear h1
    go_enter Tryd.func26, Tryd.ntmps26
    go_wp2_with (go_at_call 52; refine (KLAB.out _ _ (by first | exact H1.out) _ (by assumption)).mono ?_; rintro e wa ⟨rfl, hba, s0, s1, hbw⟩)
    go_ret
    exact ⟨ret_bool HRES.out.symm, hbw⟩
  | true =>
    cases h2 : labI l b with
    | false =>
      have H1 := Lib.hid h1
      have H2 := Lib.hid h2
      have HRES := Lib.hid (show leqB l a b = false by rw [leqB, right_lab (a := b) (by simp) h2]; rfl)
      clear h1 h2
      go_enter Tryd.func26, Tryd.ntmps26
      go_wp2_with (go_at_call 52; refine (KLAB.out _ _ (by first | exact H1.out | exact H2.out) _ (by assumption)).mono ?_; rintro e wa ⟨rfl, hba, s0, s1, hbw⟩)
      go_ret
      exact ⟨ret_bool HRES.out.symm, hbw⟩
    | true =>
      cases f with
      | false =>
        have H1 := Lib.hid h1
        have H2 := Lib.hid h2
        have HRES := Lib.hid (show leqB l a b = false by rw [leqB, right_form HFM.out.symm]; rfl)
        clear h1 h2
        go_enter Tryd.func26, Tryd.ntmps26
        go_wp2_with (first | (go_at_call 52; refine (KLAB.out _ _ (by first | exact H1.out | exact H2.out) _ (by assumption)).mono ?_; rintro e wa ⟨rfl, hba, s0, s1, hbw⟩) | (go_at_call 12; refine (KF.out _ (by assumption)).mono ?_; rintro e wf ⟨rfl, hbf, s0, s1, hbw⟩))
        go_ret
        exact ⟨ret_bool HRES.out.symm, hbw⟩
      | true =>
        obtain ⟨x, rfl, hx⟩ := labI_true h1
        obtain ⟨y, rfl, hy⟩ := labI_true h2
        have H1 := Lib.hid h1
        have H2 := Lib.hid h2
        have HQ := Lib.hid (formed_Sq HFM.out.symm)
        have h1000 := HQ.out.2.2
        have hno : l.order.length ≤ l.names.length := Nat.le_of_eq HQ.out.1
        have hno2 : l.names.length ≤ l.order.length := Nat.le_of_eq HQ.out.1.symm
        have HR2 := Lib.hid (right_two h1 h2 HFM.out.symm)
        clear h1 h2
        obtain ⟨v, hv⟩ : ∃ v, v = ord l x y := ⟨_, rfl⟩
        have HRES := Lib.hid (show leqB l x y = v by rw [leqB, HR2.out, hv]; rfl)
        have HV := Lib.hid hv
        clear hv
        go_enter Tryd.func26, Tryd.ntmps26
        go_wp2_with fail
        refine (KLAB.out _ _ H1.out _ (by assumption)).mono ?_
        rintro e wa ⟨rfl, hba, s0, s1, hbw⟩
        go_wp2_with fail
        refine (KLAB.out _ _ H2.out _ (by assumption)).mono ?_
        rintro e wb ⟨rfl, hbb, s0, s1, hbw⟩
        go_wp2_with fail
        refine (KF.out _ (by assumption)).mono ?_
        rintro e wf ⟨rfl, hbf, s0, s1, hbw⟩
        obtain ⟨_, _, hl, _, htb⟩ := HF.out _ hbf
        obtain ⟨ad, R, cx, hBB, hrow, hcell⟩ := LR.sk hl HQ.out (by omega)
        subst hBB
        have ra := hrow x hx
        have rb := hcell x y hx hy
        rw [← HV.out] at rb
        clear hl htb hrow hcell
        go_wp2
        go_ret
        exact ⟨ret_bool HRES.out.symm, hbw⟩
set_option maxRecDepth 100000 in
set_option maxHeartbeats 1600000 in
theorem refjoin_calls (l : Lat) (A B : Option Addr) (c d : Nat) (a b : Int) (w : World) (h : LR w l A c B d) (hs : Ns l) (hT : Tb w) :
    Calls Tryd.prog 27 #[.agg #[.slice A l.names.length c, .slice B l.order.length d], .int .i64 a, .int .i64 b] w fun e w' => e = .returned (.int .i64 (joinI l true a b)) ∧ Below w.heap.size w w' := by
  have KLAB := Lib.hid (fun a t (ht : labI l a = t) => kept (Q := fun e _ => e = .returned (.bool t)) h hT (fun W hl _ => label_calls l A B c d a W hl t ht))
  obtain ⟨f, hf⟩ : ∃ f, f = formedB l := ⟨_, rfl⟩
  have KF := Lib.hid (kept (Q := fun e _ => e = .returned (.bool f)) h hT (fun W hl _ => refformed_c l A B c d W hl hs f hf.symm))
  have hF := boxed (n := l.names.length) (m := l.order.length) h hT
  obtain ⟨c0, c1, hl0, hbw0, _⟩ := hF _ (Below.refl _ _)
  have hb0 := Below.refl (w.alloc (.cells #[.slice A l.names.length c, .slice B l.order.length d] 25)).heap.size (w.alloc (.cells #[.slice A l.names.length c, .slice B l.order.length d] 25))
  have HF := Lib.hid hF
  have HBW := Lib.hid hbw0
  have HFM := Lib.hid hf
  have hmn := (C_len h.2.2.1).2
  have hmo := (C_len h.2.2.2).2
  clear hF hl0 hbw0 h hs hT hf
  cases h1 : labI l a with
  | false =>
    have H1 := Lib.hid h1
    have HRES := Lib.hid (show joinI l true a b = -1 by rw [joinI, right_lab (a := a) (by simp) h1]; rfl)
    clear h1
    go_enter Tryd.func27, Tryd.ntmps27
    go_wp2_with (go_at_call 52; refine (KLAB.out _ _ (by first | exact H1.out) _ (by assumption)).mono ?_; rintro e wa ⟨rfl, hba, s0, s1, hbw⟩)
    go_ret
    exact ⟨ret_int HRES.out.symm, hbw⟩
  | true =>
    cases h2 : labI l b with
    | false =>
      have H1 := Lib.hid h1
      have H2 := Lib.hid h2
      have HRES := Lib.hid (show joinI l true a b = -1 by rw [joinI, right_lab (a := b) (by simp) h2]; rfl)
      clear h1 h2
      go_enter Tryd.func27, Tryd.ntmps27
      go_wp2_with (go_at_call 52; refine (KLAB.out _ _ (by first | exact H1.out | exact H2.out) _ (by assumption)).mono ?_; rintro e wa ⟨rfl, hba, s0, s1, hbw⟩)
      go_ret
      exact ⟨ret_int HRES.out.symm, hbw⟩
    | true =>
      cases f with
      | false =>
        have H1 := Lib.hid h1
        have H2 := Lib.hid h2
        have HRES := Lib.hid (show joinI l true a b = -1 by rw [joinI, right_form HFM.out.symm]; rfl)
        clear h1 h2
        go_enter Tryd.func27, Tryd.ntmps27
        go_wp2_with (first | (go_at_call 52; refine (KLAB.out _ _ (by first | exact H1.out | exact H2.out) _ (by assumption)).mono ?_; rintro e wa ⟨rfl, hba, s0, s1, hbw⟩) | (go_at_call 12; refine (KF.out _ (by assumption)).mono ?_; rintro e wf ⟨rfl, hbf, s0, s1, hbw⟩))
        go_ret
        exact ⟨ret_int HRES.out.symm, hbw⟩
      | true =>
        obtain ⟨x, rfl, hx⟩ := labI_true h1
        obtain ⟨y, rfl, hy⟩ := labI_true h2
        have H1 := Lib.hid h1
        have H2 := Lib.hid h2
        have HQ := Lib.hid (formed_Sq HFM.out.symm)
        have h1000 := HQ.out.2.2
        have hno : l.order.length ≤ l.names.length := Nat.le_of_eq HQ.out.1
        have hno2 : l.names.length ≤ l.order.length := Nat.le_of_eq HQ.out.1.symm
        have HR2 := Lib.hid (right_two h1 h2 HFM.out.symm)
        clear h1 h2
        have HRES := Lib.hid (show joinI l true x y = boundN l true x y by rw [joinI, HR2.out]; rfl)
        go_enter Tryd.func27, Tryd.ntmps27
        go_wp2_with fail
        refine (KLAB.out _ _ H1.out _ (by assumption)).mono ?_
        rintro e wa ⟨rfl, hba, s0, s1, hbw⟩
        go_wp2_with fail
        refine (KLAB.out _ _ H2.out _ (by assumption)).mono ?_
        rintro e wb ⟨rfl, hbb, s0, s1, hbw⟩
        go_wp2_with fail
        refine (KF.out _ (by assumption)).mono ?_
        rintro e wf ⟨rfl, hbf, s0, s1, hbw⟩
        obtain ⟨_, _, hl, _, htb⟩ := HF.out _ hbf
        have hcall : Calls Tryd.prog 38 #[.agg #[.slice A l.names.length c, .slice B l.order.length d], .int .i64 x, .int .i64 y] wf fun e w' => e = .returned (.int .i64 (boundN l true x y)) ∧ Below wf.heap.size wf w' := by
          rw [HQ.out.1]
          exact RefLat.join_calls l A B c d x y _ hl HQ.out hx hy
        have HC := Lib.hid hcall
        clear hcall hl htb
        go_wp2_with fail
        refine HC.out.mono ?_
        rintro e wj ⟨rfl, hbj⟩
        go_wp2
        go_ret
        exact ⟨ret_int HRES.out.symm, below_step hbw hbj⟩
set_option maxRecDepth 100000 in
set_option maxHeartbeats 1600000 in
theorem refmeet_calls (l : Lat) (A B : Option Addr) (c d : Nat) (a b : Int) (w : World) (h : LR w l A c B d) (hs : Ns l) (hT : Tb w) :
    Calls Tryd.prog 28 #[.agg #[.slice A l.names.length c, .slice B l.order.length d], .int .i64 a, .int .i64 b] w fun e w' => e = .returned (.int .i64 (joinI l false a b)) ∧ Below w.heap.size w w' := by
  have KLAB := Lib.hid (fun a t (ht : labI l a = t) => kept (Q := fun e _ => e = .returned (.bool t)) h hT (fun W hl _ => label_calls l A B c d a W hl t ht))
  obtain ⟨f, hf⟩ : ∃ f, f = formedB l := ⟨_, rfl⟩
  have KF := Lib.hid (kept (Q := fun e _ => e = .returned (.bool f)) h hT (fun W hl _ => refformed_c l A B c d W hl hs f hf.symm))
  have hF := boxed (n := l.names.length) (m := l.order.length) h hT
  obtain ⟨c0, c1, hl0, hbw0, _⟩ := hF _ (Below.refl _ _)
  have hb0 := Below.refl (w.alloc (.cells #[.slice A l.names.length c, .slice B l.order.length d] 25)).heap.size (w.alloc (.cells #[.slice A l.names.length c, .slice B l.order.length d] 25))
  have HF := Lib.hid hF
  have HBW := Lib.hid hbw0
  have HFM := Lib.hid hf
  have hmn := (C_len h.2.2.1).2
  have hmo := (C_len h.2.2.2).2
  clear hF hl0 hbw0 h hs hT hf
  cases h1 : labI l a with
  | false =>
    have H1 := Lib.hid h1
    have HRES := Lib.hid (show joinI l false a b = -1 by rw [joinI, right_lab (a := a) (by simp) h1]; rfl)
    clear h1
    go_enter Tryd.func28, Tryd.ntmps28
    go_wp2_with (go_at_call 52; refine (KLAB.out _ _ (by first | exact H1.out) _ (by assumption)).mono ?_; rintro e wa ⟨rfl, hba, s0, s1, hbw⟩)
    go_ret
    exact ⟨ret_int HRES.out.symm, hbw⟩
  | true =>
    cases h2 : labI l b with
    | false =>
      have H1 := Lib.hid h1
      have H2 := Lib.hid h2
      have HRES := Lib.hid (show joinI l false a b = -1 by rw [joinI, right_lab (a := b) (by simp) h2]; rfl)
      clear h1 h2
      go_enter Tryd.func28, Tryd.ntmps28
      go_wp2_with (go_at_call 52; refine (KLAB.out _ _ (by first | exact H1.out | exact H2.out) _ (by assumption)).mono ?_; rintro e wa ⟨rfl, hba, s0, s1, hbw⟩)
      go_ret
      exact ⟨ret_int HRES.out.symm, hbw⟩
    | true =>
      cases f with
      | false =>
        have H1 := Lib.hid h1
        have H2 := Lib.hid h2
        have HRES := Lib.hid (show joinI l false a b = -1 by rw [joinI, right_form HFM.out.symm]; rfl)
        clear h1 h2
        go_enter Tryd.func28, Tryd.ntmps28
        go_wp2_with (first | (go_at_call 52; refine (KLAB.out _ _ (by first | exact H1.out | exact H2.out) _ (by assumption)).mono ?_; rintro e wa ⟨rfl, hba, s0, s1, hbw⟩) | (go_at_call 12; refine (KF.out _ (by assumption)).mono ?_; rintro e wf ⟨rfl, hbf, s0, s1, hbw⟩))
        go_ret
        exact ⟨ret_int HRES.out.symm, hbw⟩
      | true =>
        obtain ⟨x, rfl, hx⟩ := labI_true h1
        obtain ⟨y, rfl, hy⟩ := labI_true h2
        have H1 := Lib.hid h1
        have H2 := Lib.hid h2
        have HQ := Lib.hid (formed_Sq HFM.out.symm)
        have h1000 := HQ.out.2.2
        have hno : l.order.length ≤ l.names.length := Nat.le_of_eq HQ.out.1
        have hno2 : l.names.length ≤ l.order.length := Nat.le_of_eq HQ.out.1.symm
        have HR2 := Lib.hid (right_two h1 h2 HFM.out.symm)
        clear h1 h2
        have HRES := Lib.hid (show joinI l false x y = boundN l false x y by rw [joinI, HR2.out]; rfl)
        go_enter Tryd.func28, Tryd.ntmps28
        go_wp2_with fail
        refine (KLAB.out _ _ H1.out _ (by assumption)).mono ?_
        rintro e wa ⟨rfl, hba, s0, s1, hbw⟩
        go_wp2_with fail
        refine (KLAB.out _ _ H2.out _ (by assumption)).mono ?_
        rintro e wb ⟨rfl, hbb, s0, s1, hbw⟩
        go_wp2_with fail
        refine (KF.out _ (by assumption)).mono ?_
        rintro e wf ⟨rfl, hbf, s0, s1, hbw⟩
        obtain ⟨_, _, hl, _, htb⟩ := HF.out _ hbf
        have hcall : Calls Tryd.prog 39 #[.agg #[.slice A l.names.length c, .slice B l.order.length d], .int .i64 x, .int .i64 y] wf fun e w' => e = .returned (.int .i64 (boundN l false x y)) ∧ Below wf.heap.size wf w' := by
          rw [HQ.out.1]
          exact RefLat.meet_calls l A B c d x y _ hl HQ.out hx hy
        have HC := Lib.hid hcall
        clear hcall hl htb
        go_wp2_with fail
        refine HC.out.mono ?_
        rintro e wj ⟨rfl, hbj⟩
        go_wp2
        go_ret
        exact ⟨ret_int HRES.out.symm, below_step hbw hbj⟩
/-- The join, -1 counting as nothing. -/
noncomputable def bothI (l : Lat) (a b : Int) : Int := joinI l true (if a = -1 then b else a) (if b = -1 then (if a = -1 then b else a) else b)
theorem join_bad {a b : Int} (h : labI l a = false) : joinI l true a b = -1 := by rw [joinI, right_lab (a := a) (by simp) h]; rfl
theorem join_bad2 {a b : Int} (h : labI l b = false) : joinI l true a b = -1 := by rw [joinI, right_lab (a := b) (by simp) h]; rfl
theorem lab_none : labI l (-1) = false := rfl
theorem join_self {b : Int} (h : rightB l [b] = true) : joinI l true b b = b := by
  have hf : formedB l = true := by
    cases hf : formedB l
    · rw [right_form hf] at h; cases h
    · rfl
  have hl : labI l b = true := by
    cases hl : labI l b
    · rw [right_lab (a := b) (by simp) hl] at h; cases h
    · rfl
  obtain ⟨x, rfl, hx⟩ := labI_true hl
  have hb := bd hf true
  rw [join_of hf true hx hx, (hb.le hx hx).1 (hb.refl x hx)]
theorem join_self_bad {b : Int} (h : rightB l [b] = false) : joinI l true b b = -1 := by
  have : rightB l [b, b] = rightB l [b] := by simp [rightB, labB]
  rw [joinI, this, h]; rfl
theorem C_oneI {W : World} {g : Nat} {a : Int} {t : TypeId} (h : W.heap[g]? = some (.cells #[.int .i64 a] t (0, 0))) : (Kd.int .i64).C W (some ⟨g, 0, none⟩) 1 [a] := by
  refine ⟨rfl, by omega, fun _ => ⟨_, rfl, fun j p hj => ?_⟩⟩
  match j, hj with
  | 0, hj =>
    obtain rfl : a = p := by simpa using hj
    exact ⟨_, rfl, rfl, fun i u hu => by
      match i, hu with
      | 0, hu => obtain rfl : Value.int .i64 a = u := by simpa [Kd.int, Kd.scalar] using hu
                 exact (blk_cell h 0).trans rfl⟩
theorem right1_calls (l : Lat) (A B : Option Addr) (c d : Nat) (b : Int) (t : TypeId) (W : World) (h : LR W l A c B d) (hs : Ns l) (hT : Tb W) :
    Calls Tryd.prog 43 #[.agg #[.slice A l.names.length c, .slice B l.order.length d], .slice (some ⟨W.heap.size, 0, none⟩) 1 1] (W.alloc (.cells #[.int .i64 b] t)) fun e w' => e = .returned (.bool (rightB l [b])) ∧ Below W.heap.size W w' := by
  have hb1 := below_alloc (Below.refl W.heap.size W) (.cells #[.int .i64 b] t)
  refine (right_calls l A B _ c d 1 [b] _ (h.below hb1) hs (hT.below hb1) (C_oneI (blk_new W _))).mono ?_
  rintro e w' ⟨he, hb⟩
  exact ⟨he, below_step hb1 hb⟩
set_option maxRecDepth 100000 in
set_option maxHeartbeats 1600000 in
theorem both_calls (l : Lat) (A B : Option Addr) (c d : Nat) (a b : Int) (w : World) (h : LR w l A c B d) (hs : Ns l) (hT : Tb w) :
    Calls Tryd.prog 29 #[.agg #[.slice A l.names.length c, .slice B l.order.length d], .int .i64 a, .int .i64 b] w fun e w' => e = .returned (.int .i64 (bothI l a b)) ∧ Below w.heap.size w w' := by
  have hF := boxed (n := l.names.length) (m := l.order.length) h hT
  obtain ⟨c0, c1, hl0, hbw0, htb0⟩ := hF _ (Below.refl _ _)
  have KJ := Lib.hid (kept (Q := fun e _ => e = .returned (.int .i64 (joinI l true a b))) h hT (fun W hl ht => join_calls l A B c d a b W hl hs ht))
  have hb0 := Below.refl (w.alloc (.cells #[.slice A l.names.length c, .slice B l.order.length d] 25)).heap.size (w.alloc (.cells #[.slice A l.names.length c, .slice B l.order.length d] 25))
  have HF := Lib.hid hF
  have HS := Lib.hid hs
  by_cases ha : a = -1
  · subst ha
    obtain ⟨t, ht⟩ : ∃ t, t = rightB l [b] := ⟨_, rfl⟩
    have hr := right1_calls l A B c d b 3 _ hl0 hs htb0
    rw [← ht, alloc_size] at hr
    have HR := Lib.hid hr
    have HT := Lib.hid ht
    clear hr ht hF hl0 hbw0 htb0 h hs hT
    have e1 : ((-1 : Int) == -1) = true := rfl
    cases t with
    | true =>
      have HRES := Lib.hid (show bothI l (-1) b = b by
        have hj := join_self HT.out.symm
        unfold bothI
        by_cases hb : b = -1
        · rw [if_pos rfl, if_pos hb]; exact hj
        · rw [if_pos rfl, if_neg hb]; exact hj)
      clear e1
      go_enter Tryd.func29, Tryd.ntmps29
      go_wp2_with fail
      refine HR.out.mono ?_
      rintro e w1 ⟨rfl, hb1⟩
      obtain ⟨_, _, _, hbw, _⟩ := HF.out _ (by rw [alloc_size]; exact hb1)
      go_wp2
      go_ret
      exact ⟨ret_int HRES.out.symm, hbw⟩
    | false =>
      have HRES := Lib.hid (show bothI l (-1) b = joinI l true (-1) b by
        have hj := join_self_bad HT.out.symm
        rw [join_bad lab_none]
        unfold bothI
        by_cases hb : b = -1
        · rw [if_pos rfl, if_pos hb]; exact hj
        · rw [if_pos rfl, if_neg hb]; exact hj)
      clear e1
      go_enter Tryd.func29, Tryd.ntmps29
      go_wp2_with fail
      refine HR.out.mono ?_
      rintro e w1 ⟨rfl, hb1⟩
      have hb2 : Below (w.alloc (.cells #[.slice A l.names.length c, .slice B l.order.length d] 25)).heap.size (w.alloc (.cells #[.slice A l.names.length c, .slice B l.order.length d] 25)) w1 := by rw [alloc_size]; exact hb1
      clear c0 c1
      obtain ⟨c0, c1, hl1, hbw, htb1⟩ := HF.out _ hb2
      by_cases hbb : b = -1
      · subst hbb
        have hr := right1_calls l A B c d (-1) 3 _ hl1 HS.out htb1
        rw [right_lab (a := -1) (by simp) lab_none] at hr
        have HR2 := Lib.hid hr
        have HB2 := Lib.hid hb2
        clear hr hl1 hbw htb1
        go_wp2_with fail
        refine HR2.out.mono ?_
        rintro e w2 ⟨rfl, hb3⟩
        have hb4 := below_step HB2.out hb3
        clear c0 c1
        obtain ⟨c0, c1, _, _, _⟩ := HF.out _ hb4
        clear hb1 hb2 hb3
        go_wp2_with (go_at_call 19; refine (KJ.out _ (by assumption)).mono ?_; rintro e w3 ⟨rfl, hbj, s0, s1, hbw3⟩)
        go_ret
        exact ⟨ret_int HRES.out.symm, hbw3⟩
      · have e2 : (b == -1) = false := beq_eq_false_iff_ne.2 hbb
        clear hl1 hbw htb1 hb1
        go_wp2_with (go_at_call 19; refine (KJ.out _ (by assumption)).mono ?_; rintro e w3 ⟨rfl, hbj, s0, s1, hbw3⟩)
        go_ret
        exact ⟨ret_int HRES.out.symm, hbw3⟩
  · have e1 : (a == -1) = false := beq_eq_false_iff_ne.2 ha
    by_cases hbb : b = -1
    · subst hbb
      obtain ⟨t, ht⟩ : ∃ t, t = rightB l [a] := ⟨_, rfl⟩
      have hr := right1_calls l A B c d a 3 _ hl0 hs htb0
      rw [← ht, alloc_size] at hr
      have HR := Lib.hid hr
      have HT := Lib.hid ht
      clear hr ht hF hl0 hbw0 htb0 h hs hT
      cases t with
      | true =>
        have HRES := Lib.hid (show bothI l a (-1) = a by
          have hj := join_self HT.out.symm
          unfold bothI
          rw [if_neg ha, if_pos rfl]; exact hj)
        clear ha
        go_enter Tryd.func29, Tryd.ntmps29
        go_wp2_with fail
        refine HR.out.mono ?_
        rintro e w1 ⟨rfl, hb1⟩
        obtain ⟨_, _, _, hbw, _⟩ := HF.out _ (by rw [alloc_size]; exact hb1)
        go_wp2
        go_ret
        exact ⟨ret_int HRES.out.symm, hbw⟩
      | false =>
        have HRES := Lib.hid (show bothI l a (-1) = joinI l true a (-1) by
          have hj := join_self_bad HT.out.symm
          rw [join_bad2 lab_none]
          unfold bothI
          rw [if_neg ha, if_pos rfl]; exact hj)
        clear ha
        go_enter Tryd.func29, Tryd.ntmps29
        go_wp2_with fail
        refine HR.out.mono ?_
        rintro e w1 ⟨rfl, hb1⟩
        have hb2 : Below (w.alloc (.cells #[.slice A l.names.length c, .slice B l.order.length d] 25)).heap.size (w.alloc (.cells #[.slice A l.names.length c, .slice B l.order.length d] 25)) w1 := by rw [alloc_size]; exact hb1
        clear c0 c1
        obtain ⟨c0, c1, _, _, _⟩ := HF.out _ hb2
        clear hb1
        go_wp2_with (go_at_call 19; refine (KJ.out _ (by assumption)).mono ?_; rintro e w3 ⟨rfl, hbj, s0, s1, hbw3⟩)
        go_ret
        exact ⟨ret_int HRES.out.symm, hbw3⟩
    · have e2 : (b == -1) = false := beq_eq_false_iff_ne.2 hbb
      have HRES := Lib.hid (show bothI l a b = joinI l true a b by unfold bothI; rw [if_neg ha, if_neg hbb])
      clear hF hl0 hbw0 htb0 h hs hT ha hbb
      go_enter Tryd.func29, Tryd.ntmps29
      go_wp2_with (go_at_call 19; refine (KJ.out _ (by assumption)).mono ?_; rintro e w3 ⟨rfl, hbj, s0, s1, hbw3⟩)
      go_ret
      exact ⟨ret_int HRES.out.symm, hbw3⟩
set_option maxRecDepth 100000 in
set_option maxHeartbeats 1600000 in
theorem refboth_calls (l : Lat) (A B : Option Addr) (c d : Nat) (a b : Int) (w : World) (h : LR w l A c B d) (hs : Ns l) (hT : Tb w) :
    Calls Tryd.prog 30 #[.agg #[.slice A l.names.length c, .slice B l.order.length d], .int .i64 a, .int .i64 b] w fun e w' => e = .returned (.int .i64 (bothI l a b)) ∧ Below w.heap.size w w' := by
  have hF := boxed (n := l.names.length) (m := l.order.length) h hT
  obtain ⟨c0, c1, hl0, hbw0, htb0⟩ := hF _ (Below.refl _ _)
  have HJ := Lib.hid (fun a b => refjoin_calls l A B c d a b (w.alloc (.cells #[.slice A l.names.length c, .slice B l.order.length d] 25)) hl0 hs htb0)
  have HB := Lib.hid hbw0
  clear hF hl0 hbw0 htb0 h hs hT
  by_cases ha : a = -1
  · subst ha
    by_cases hb : b = -1
    · subst hb
      have HRES := Lib.hid (show bothI l (-1) (-1) = joinI l true (-1) (-1) by unfold bothI; rw [if_pos rfl, if_pos rfl])
      go_enter Tryd.func30, Tryd.ntmps30
      go_wp2_with (go_at_call 27; refine (HJ.out _ _).mono ?_; rintro e w3 ⟨rfl, hbj⟩)
      go_ret
      exact ⟨ret_int HRES.out.symm, below_step HB.out hbj⟩
    · have e2 : (b == -1) = false := beq_eq_false_iff_ne.2 hb
      have HRES := Lib.hid (show bothI l (-1) b = joinI l true b b by unfold bothI; rw [if_pos rfl, if_neg hb])
      clear hb
      go_enter Tryd.func30, Tryd.ntmps30
      go_wp2_with (go_at_call 27; refine (HJ.out _ _).mono ?_; rintro e w3 ⟨rfl, hbj⟩)
      go_ret
      exact ⟨ret_int HRES.out.symm, below_step HB.out hbj⟩
  · have e1 : (a == -1) = false := beq_eq_false_iff_ne.2 ha
    by_cases hb : b = -1
    · subst hb
      have HRES := Lib.hid (show bothI l a (-1) = joinI l true a a by unfold bothI; rw [if_neg ha, if_pos rfl])
      clear ha
      go_enter Tryd.func30, Tryd.ntmps30
      go_wp2_with (go_at_call 27; refine (HJ.out _ _).mono ?_; rintro e w3 ⟨rfl, hbj⟩)
      go_ret
      exact ⟨ret_int HRES.out.symm, below_step HB.out hbj⟩
    · have e2 : (b == -1) = false := beq_eq_false_iff_ne.2 hb
      have HRES := Lib.hid (show bothI l a b = joinI l true a b by unfold bothI; rw [if_neg ha, if_neg hb])
      clear ha hb
      go_enter Tryd.func30, Tryd.ntmps30
      go_wp2_with (go_at_call 27; refine (HJ.out _ _).mono ?_; rintro e w3 ⟨rfl, hbj⟩)
      go_ret
      exact ⟨ret_int HRES.out.symm, below_step HB.out hbj⟩
/-! ### the ends, by the reference -/
def rowUp (l : Lat) (k m : Nat) : Bool := (List.range m).all fun y => ord l k y
def colUp (l : Lat) (k m : Nat) : Bool := (List.range m).all fun y => ord l y k
theorem rowUp_succ (l : Lat) (k m : Nat) : rowUp l k (m + 1) = (rowUp l k m && ord l k m) := by simp [rowUp, List.range_succ]
theorem colUp_succ (l : Lat) (k m : Nat) : colUp l k (m + 1) = (colUp l k m && ord l m k) := by simp [colUp, List.range_succ]
theorem bot_is (hf : formedB l = true) {k : Nat} (hk : k < l.names.length) (h : rowUp l k l.names.length = true) : botI l = k := by
  obtain ⟨k0, e0, h0, hl0⟩ := bot_of hf
  have f := of_formedB hf
  have h1 : ord l k k0 = true := by
    simp only [rowUp, List.all_eq_true, List.mem_range] at h
    exact h k0 h0
  have h2 := hl0 k hk
  rw [e0]
  by_cases he : k = k0
  · rw [he]
  · exact absurd h2 (fun h2 => f.anti k k0 hk h0 he h1 h2)
theorem top_is (hf : formedB l = true) {k : Nat} (hk : k < l.names.length) (h : colUp l k l.names.length = true) : topI l = k := by
  obtain ⟨k0, e0, h0, hl0⟩ := top_of hf
  have f := of_formedB hf
  have h1 : ord l k0 k = true := by
    simp only [colUp, List.all_eq_true, List.mem_range] at h
    exact h k0 h0
  have h2 := hl0 k hk
  rw [e0]
  by_cases he : k = k0
  · rw [he]
  · exact absurd h2 (fun h2 => f.anti k k0 hk h0 he h2 h1)
theorem bot_no (hf : formedB l = true) (h : ∀ k, k < l.names.length → rowUp l k l.names.length = false) : False := by
  obtain ⟨k0, e0, h0, hl0⟩ := bot_of hf
  have := h k0 h0
  rw [show rowUp l k0 l.names.length = true from by simp only [rowUp, List.all_eq_true, List.mem_range]; exact hl0] at this
  cases this
theorem top_no (hf : formedB l = true) (h : ∀ k, k < l.names.length → colUp l k l.names.length = false) : False := by
  obtain ⟨k0, e0, h0, hl0⟩ := top_of hf
  have := h k0 h0
  rw [show colUp l k0 l.names.length = true from by simp only [colUp, List.all_eq_true, List.mem_range]; exact hl0] at this
  cases this
set_option maxRecDepth 100000 in
set_option maxHeartbeats 3200000 in
theorem refbottom_calls (l : Lat) (A B : Option Addr) (c d : Nat) (w : World) (h : LR w l A c B d) (hs : Ns l) (hT : Tb w) :
    Calls Tryd.prog 31 #[.agg #[.slice A l.names.length c, .slice B l.order.length d]] w fun e w' => e = .returned (.int .i64 (botI l)) ∧ Below w.heap.size w w' := by
  obtain ⟨f, hf⟩ : ∃ f, f = formedB l := ⟨_, rfl⟩
  have KF := Lib.hid (kept (Q := fun e _ => e = .returned (.bool f)) h hT (fun W hl _ => refformed_c l A B c d W hl hs f hf.symm))
  have hF := boxed (n := l.names.length) (m := l.order.length) h hT
  obtain ⟨c0, c1, hl0, hbw0, _⟩ := hF _ (Below.refl _ _)
  have hb0 := Below.refl (w.alloc (.cells #[.slice A l.names.length c, .slice B l.order.length d] 25)).heap.size (w.alloc (.cells #[.slice A l.names.length c, .slice B l.order.length d] 25))
  have HB0 := Lib.hid hb0
  have HF := Lib.hid hF
  have HBW := Lib.hid hbw0
  have HFM := Lib.hid hf
  have hmn := (C_len h.2.2.1).2
  have hmo := (C_len h.2.2.2).2
  clear hF hl0 hbw0 h hs hT hf
  cases f with
  | false =>
    have HRES := Lib.hid (show botI l = -1 by rw [botI, ← HFM.out]; rfl)
    by_cases hn : 0 < l.names.length
    · go_enter Tryd.func31, Tryd.ntmps31
      go_wp2_with fail
      refine wp_loop_rounds 1 ?_
      rw [rounds_succ]
      go_wp2_with (go_at_call 12; refine (KF.out _ (by assumption)).mono ?_; rintro e wf ⟨rfl, hbf, s0, s1, hbw⟩)
      go_ret
      exact ⟨ret_int HRES.out.symm, hbw⟩
    · go_enter Tryd.func31, Tryd.ntmps31
      go_wp2_with fail
      refine wp_loop_rounds 1 ?_
      rw [rounds_succ]
      go_wp2
      go_ret
      exact ⟨ret_int HRES.out.symm, HBW.out⟩
  | true =>
    have HQ := Lib.hid (formed_Sq HFM.out.symm)
    have h1000 := HQ.out.2.2
    have hno : l.order.length ≤ l.names.length := Nat.le_of_eq HQ.out.1
    have hno2 : l.names.length ≤ l.order.length := Nat.le_of_eq HQ.out.1.symm
    go_enter Tryd.func31, Tryd.ntmps31
    go_wp2_with fail
    clear c0 c1 hb0
    go_loopg [3] (l.names.length) (fun g i wx => ∃ k : Nat, i = .int .i64 k ∧ k ≤ l.names.length ∧ g = l.names.length - k ∧ Hid (Below (w.alloc (.cells #[.slice A l.names.length c, .slice B l.order.length d] 25)).heap.size (w.alloc (.cells #[.slice A l.names.length c, .slice B l.order.length d] 25)) wx) ∧ Hid (∀ j, j < k → rowUp l j l.names.length = false))
    case atStart => exact ⟨0, rfl, Nat.zero_le _, rfl, HB0, Lib.hid (fun j hj => absurd hj (by omega))⟩
    case round =>
      obtain ⟨k, rfl, hk, rfl, hbr, hall⟩ := hrel
      obtain ⟨c0, c1, _, hbw, _⟩ := HF.out _ hbr.out
      by_cases hlt : k < l.names.length
      · have hb0 := hbr.out
        go_wp2_with fail
        refine (KF.out _ (by assumption)).mono ?_
        rintro e wf ⟨rfl, hbf, s0, s1, hbw⟩
        have HBF := Lib.hid hbf
        clear c0 c1 hb0
        go_wp2_with fail
        clear s0 s1 hbf
        go_loopg [4, 5] (l.names.length) (fun g al i wx => ∃ m : Nat, i = .int .i64 m ∧ m ≤ l.names.length ∧ g = l.names.length - m ∧ Hid (Below (w.alloc (.cells #[.slice A l.names.length c, .slice B l.order.length d] 25)).heap.size (w.alloc (.cells #[.slice A l.names.length c, .slice B l.order.length d] 25)) wx) ∧ al = .bool (rowUp l k m))
        case atStart => exact ⟨0, rfl, Nat.zero_le _, rfl, HBF, rfl⟩
        case round =>
          obtain ⟨m, rfl, hm, rfl, hbr2, rfl⟩ := hrel
          obtain ⟨c0, c1, hl, hbw2, _⟩ := HF.out _ hbr2.out
          have HBW2 := Lib.hid hbw2
          by_cases hltm : m < l.names.length
          · obtain ⟨ad, R, cx, hBB, hrow, hcell⟩ := LR.sk hl HQ.out (by omega)
            subst hBB
            have ra := hrow k hlt
            have rb := hcell k m hlt hltm
            obtain ⟨v, hv⟩ : ∃ v, v = ord l k m := ⟨_, rfl⟩
            rw [← hv] at rb
            have HS := Lib.hid (rowUp_succ l k m)
            rw [← hv] at HS
            clear hl hrow hcell hv hbw2
            obtain ⟨u, hu⟩ : ∃ u, u = rowUp l k m := ⟨_, rfl⟩
            rw [← hu] at HS
            rw [← hu]
            clear hu
            cases u with
            | true =>
              go_wp2
              go_roundg (l.names.length - (m + 1))
              case measure => omega
              case rel => exact ⟨m + 1, by go_num, by omega, rfl, hbr2, by rw [HS.out]; rfl⟩
            | false =>
              go_wp2
              go_roundg (l.names.length - (m + 1))
              case measure => omega
              case rel => exact ⟨m + 1, by go_num, by omega, rfl, hbr2, by rw [HS.out]; rfl⟩
          · obtain rfl : m = l.names.length := by omega
            cases hu : rowUp l k l.names.length with
            | true =>
              have HRES := Lib.hid (bot_is HFM.out.symm hlt hu)
              clear hu hl hbw2
              go_wp2
              go_ret
              exact ⟨ret_int HRES.out.symm, HBW2.out⟩
            | false =>
              have HALL := Lib.hid (upto_succ hall.out hu)
              clear hu hl hbw2
              go_wp2
              go_roundg (l.names.length - (k + 1))
              case measure => omega
              case rel => exact ⟨k + 1, by go_num, by omega, rfl, hbr2, HALL⟩
      · obtain rfl : k = l.names.length := by omega
        exact (bot_no HFM.out.symm hall.out).elim
set_option maxRecDepth 100000 in
set_option maxHeartbeats 3200000 in
theorem reftop_calls (l : Lat) (A B : Option Addr) (c d : Nat) (w : World) (h : LR w l A c B d) (hs : Ns l) (hT : Tb w) :
    Calls Tryd.prog 32 #[.agg #[.slice A l.names.length c, .slice B l.order.length d]] w fun e w' => e = .returned (.int .i64 (topI l)) ∧ Below w.heap.size w w' := by
  obtain ⟨f, hf⟩ : ∃ f, f = formedB l := ⟨_, rfl⟩
  have KF := Lib.hid (kept (Q := fun e _ => e = .returned (.bool f)) h hT (fun W hl _ => refformed_c l A B c d W hl hs f hf.symm))
  have hF := boxed (n := l.names.length) (m := l.order.length) h hT
  obtain ⟨c0, c1, hl0, hbw0, _⟩ := hF _ (Below.refl _ _)
  have hb0 := Below.refl (w.alloc (.cells #[.slice A l.names.length c, .slice B l.order.length d] 25)).heap.size (w.alloc (.cells #[.slice A l.names.length c, .slice B l.order.length d] 25))
  have HB0 := Lib.hid hb0
  have HF := Lib.hid hF
  have HBW := Lib.hid hbw0
  have HFM := Lib.hid hf
  have hmn := (C_len h.2.2.1).2
  have hmo := (C_len h.2.2.2).2
  clear hF hl0 hbw0 h hs hT hf
  cases f with
  | false =>
    have HRES := Lib.hid (show topI l = -1 by rw [topI, ← HFM.out]; rfl)
    by_cases hn : 0 < l.names.length
    · go_enter Tryd.func32, Tryd.ntmps32
      go_wp2_with fail
      refine wp_loop_rounds 1 ?_
      rw [rounds_succ]
      go_wp2_with (go_at_call 12; refine (KF.out _ (by assumption)).mono ?_; rintro e wf ⟨rfl, hbf, s0, s1, hbw⟩)
      go_ret
      exact ⟨ret_int HRES.out.symm, hbw⟩
    · go_enter Tryd.func32, Tryd.ntmps32
      go_wp2_with fail
      refine wp_loop_rounds 1 ?_
      rw [rounds_succ]
      go_wp2
      go_ret
      exact ⟨ret_int HRES.out.symm, HBW.out⟩
  | true =>
    have HQ := Lib.hid (formed_Sq HFM.out.symm)
    have h1000 := HQ.out.2.2
    have hno : l.order.length ≤ l.names.length := Nat.le_of_eq HQ.out.1
    have hno2 : l.names.length ≤ l.order.length := Nat.le_of_eq HQ.out.1.symm
    go_enter Tryd.func32, Tryd.ntmps32
    go_wp2_with fail
    clear c0 c1 hb0
    go_loopg [3] (l.names.length) (fun g i wx => ∃ k : Nat, i = .int .i64 k ∧ k ≤ l.names.length ∧ g = l.names.length - k ∧ Hid (Below (w.alloc (.cells #[.slice A l.names.length c, .slice B l.order.length d] 25)).heap.size (w.alloc (.cells #[.slice A l.names.length c, .slice B l.order.length d] 25)) wx) ∧ Hid (∀ j, j < k → colUp l j l.names.length = false))
    case atStart => exact ⟨0, rfl, Nat.zero_le _, rfl, HB0, Lib.hid (fun j hj => absurd hj (by omega))⟩
    case round =>
      obtain ⟨k, rfl, hk, rfl, hbr, hall⟩ := hrel
      obtain ⟨c0, c1, _, hbw, _⟩ := HF.out _ hbr.out
      by_cases hlt : k < l.names.length
      · have hb0 := hbr.out
        go_wp2_with fail
        refine (KF.out _ (by assumption)).mono ?_
        rintro e wf ⟨rfl, hbf, s0, s1, hbw⟩
        have HBF := Lib.hid hbf
        clear c0 c1 hb0
        go_wp2_with fail
        clear s0 s1 hbf
        go_loopg [4, 5] (l.names.length) (fun g al i wx => ∃ m : Nat, i = .int .i64 m ∧ m ≤ l.names.length ∧ g = l.names.length - m ∧ Hid (Below (w.alloc (.cells #[.slice A l.names.length c, .slice B l.order.length d] 25)).heap.size (w.alloc (.cells #[.slice A l.names.length c, .slice B l.order.length d] 25)) wx) ∧ al = .bool (colUp l k m))
        case atStart => exact ⟨0, rfl, Nat.zero_le _, rfl, HBF, rfl⟩
        case round =>
          obtain ⟨m, rfl, hm, rfl, hbr2, rfl⟩ := hrel
          obtain ⟨c0, c1, hl, hbw2, _⟩ := HF.out _ hbr2.out
          have HBW2 := Lib.hid hbw2
          by_cases hltm : m < l.names.length
          · obtain ⟨ad, R, cx, hBB, hrow, hcell⟩ := LR.sk hl HQ.out (by omega)
            subst hBB
            have ra := hrow m hltm
            have rb := hcell m k hltm hlt
            obtain ⟨v, hv⟩ : ∃ v, v = ord l m k := ⟨_, rfl⟩
            rw [← hv] at rb
            have HS := Lib.hid (colUp_succ l k m)
            rw [← hv] at HS
            clear hl hrow hcell hv hbw2
            obtain ⟨u, hu⟩ : ∃ u, u = colUp l k m := ⟨_, rfl⟩
            rw [← hu] at HS
            rw [← hu]
            clear hu
            cases u with
            | true =>
              go_wp2
              go_roundg (l.names.length - (m + 1))
              case measure => omega
              case rel => exact ⟨m + 1, by go_num, by omega, rfl, hbr2, by rw [HS.out]; rfl⟩
            | false =>
              go_wp2
              go_roundg (l.names.length - (m + 1))
              case measure => omega
              case rel => exact ⟨m + 1, by go_num, by omega, rfl, hbr2, by rw [HS.out]; rfl⟩
          · obtain rfl : m = l.names.length := by omega
            cases hu : colUp l k l.names.length with
            | true =>
              have HRES := Lib.hid (top_is HFM.out.symm hlt hu)
              clear hu hl hbw2
              go_wp2
              go_ret
              exact ⟨ret_int HRES.out.symm, HBW2.out⟩
            | false =>
              have HALL := Lib.hid (upto_succ hall.out hu)
              clear hu hl hbw2
              go_wp2
              go_roundg (l.names.length - (k + 1))
              case measure => omega
              case rel => exact ⟨k + 1, by go_num, by omega, rfl, hbr2, HALL⟩
      · obtain rfl : k = l.names.length := by omega
        exact (top_no HFM.out.symm hall.out).elim
/-! ### all labels below one -/
noncomputable def belowN (l : Lat) (a : Int) (n : Nat) : List Int := ((List.range n).filter fun (b : Nat) => leqB l b a).map fun (b : Nat) => (b : Int)
theorem belowN_yes {a : Int} {n : Nat} (h : leqB l n a = true) : belowN l a (n + 1) = belowN l a n ++ [(n : Int)] := by simp [belowN, List.range_succ, h]
theorem belowN_no {a : Int} {n : Nat} (h : leqB l n a = false) : belowN l a (n + 1) = belowN l a n := by simp [belowN, List.range_succ, h]
theorem belowN_len (l : Lat) (a : Int) (n : Nat) : (belowN l a n).length ≤ n := by
  rw [belowN, List.length_map]
  exact Nat.le_trans (List.length_filter_le _ _) (by simp)
theorem infoInt : (Tryd.prog.info? 3).map (fun i => (i.zero, i.size, i.bytes)) = some (some (.int .i64 0), 1, 8) := by kernel_rfl
set_option maxRecDepth 100000 in
set_option maxHeartbeats 3200000 in
theorem below_calls (l : Lat) (A B : Option Addr) (c d : Nat) (a : Int) (w : World) (h : LR w l A c B d) (hs : Ns l) (hT : Tb w) (hn : l.names.length ≤ 100) :
    Calls Tryd.prog 25 #[.agg #[.slice A l.names.length c, .slice B l.order.length d], .int .i64 a] w fun e w' => ∃ v, e = .returned v ∧ (Kd.int .i64).R 3 w' w.heap.size (fun _ => True) v (belowN l a l.names.length) ∧ Below w.heap.size w w' := by
  have KL := Lib.hid (fun (b : Int) t (ht : leqB l b a = t) => kept2 (Q := fun e _ => e = .returned (.bool t)) (f := 18) (args := #[.agg #[.slice A l.names.length c, .slice B l.order.length d], .int .i64 b, .int .i64 a]) h hT (fun W hl htb => by rw [← ht]; exact leq_calls l A B c d b a W hl hs htb))
  have hF := boxed (n := l.names.length) (m := l.order.length) h hT
  obtain ⟨c0, c1, hl0, hbw0, _⟩ := hF _ (Below.refl _ _)
  have HB0 := Lib.hid (Below.refl (w.alloc (.cells #[.slice A l.names.length c, .slice B l.order.length d] 25)).heap.size (w.alloc (.cells #[.slice A l.names.length c, .slice B l.order.length d] 25)))
  have HF := Lib.hid hF
  have hmn := (C_len h.2.2.1).2
  have hmo := (C_len h.2.2.2).2
  have HR0 : Hid ((Kd.int .i64).R 3 (w.alloc (.cells #[.slice A l.names.length c, .slice B l.order.length d] 25)) (w.heap.size + 1) (fun _ => True) (.slice none 0 0) (belowN l a 0)) := Lib.hid (Kd.R_nil _ _ _ _ _)
  clear hF hl0 hbw0 h hs hT
  go_enter Tryd.func25, Tryd.ntmps25
  go_wp2_with fail
  clear c0 c1
  go_loopg [5, 10] (l.names.length) (fun g v i wx => ∃ k : Nat, i = .int .i64 k ∧ k ≤ l.names.length ∧ g = l.names.length - k ∧ Hid (Below (w.alloc (.cells #[.slice A l.names.length c, .slice B l.order.length d] 25)).heap.size (w.alloc (.cells #[.slice A l.names.length c, .slice B l.order.length d] 25)) wx) ∧ Hid ((Kd.int .i64).R 3 wx (w.heap.size + 1) (fun _ => True) v (belowN l a k)))
  case atStart => exact ⟨0, rfl, Nat.zero_le _, rfl, HB0, HR0⟩
  case round =>
    obtain ⟨k, rfl, hk, rfl, hbr, hR⟩ := hrel
    obtain ⟨c0, c1, _, hbw, _⟩ := HF.out _ hbr.out
    have HBW := Lib.hid hbw
    obtain ⟨A1, cc, rfl⟩ := Kd.R_slice hR.out
    have hmk : (belowN l a k).length ≤ k := belowN_len l a k
    clear hbw
    by_cases hlt : k < l.names.length
    · obtain ⟨t, ht⟩ : ∃ t, leqB l k a = t := ⟨_, rfl⟩
      have HT := Lib.hid ht
      clear ht
      go_wp2_with fail
      refine (KL.out _ t HT.out _ hbr.out).mono ?_
      rintro e w1 ⟨rfl, hb1, s0, s1, hb2⟩
      have HR1 := Lib.hid (Kd.R_below hR.out hb2)
      have HB1 := Lib.hid hb1
      clear hb1 hb2 c0 c1 s0 s1
      cases t with
      | false =>
        have HRN := Lib.hid (show (Kd.int .i64).R 3 w1 (w.heap.size + 1) (fun _ => True) (.slice A1 (belowN l a k).length cc) (belowN l a (k + 1)) by rw [belowN_no HT.out]; exact HR1.out)
        go_wp2
        go_roundg (l.names.length - (k + 1))
        case measure => omega
        case rel => exact ⟨k + 1, by go_num, by omega, rfl, HB1, HRN⟩
      | true =>
        have hbb := HB1.out
        rw [alloc_size] at hbb
        have HBB := Lib.hid hbb
        have hsz1 := hbb.size
        rw [alloc_size] at hsz1
        clear hbb
        go_wp2_with (at_builtin; (refine Kd.R_append (Kd.int .i64) (w0 := (w.alloc (.cells #[.slice A l.names.length c, .slice B l.order.length d] 25))) (w.heap.size + 1) rfl (.tmp 17) (.tmp 19) 42 3 (.int .i64 0) 8 rfl Tryd.underlying42 infoInt rfl (by decide) (by omega) (.slice A1 (belowN l a k).length cc) (belowN l a k) (k : Int) [.int .i64 k] (fun _ => True) (fun _ => False) rfl rfl rfl (fun _ hf => hf.elim) (fun _ _ => trivial) HR1.out HBB.out (by omega) (by omega) ?_); intro v1 w2 hR2 hb2 hg hat; rw [← belowN_yes HT.out] at hR2; have HR2 := Lib.hid hR2; have HB2 := Lib.hid hb2; clear hR2 hb2 hg hat)
        have hb3 := HB2.out
        rw [show w.heap.size + 1 = (w.alloc (.cells #[.slice A l.names.length c, .slice B l.order.length d] 25)).heap.size from (alloc_size w _).symm] at hb3
        have HB3 := Lib.hid hb3
        clear hb3
        go_roundg (l.names.length - (k + 1))
        case measure => omega
        case rel => exact ⟨k + 1, by go_num, by omega, rfl, HB3, HR2⟩
    · obtain rfl : k = l.names.length := by omega
      go_wp2
      go_ret
      exact ⟨_, rfl, Kd.R_lower hR.out (by omega), HBW.out⟩
set_option maxRecDepth 100000 in
set_option maxHeartbeats 3200000 in
theorem refbelow_calls (l : Lat) (A B : Option Addr) (c d : Nat) (a : Int) (w : World) (h : LR w l A c B d) (hs : Ns l) (hT : Tb w) (hn : l.names.length ≤ 100) :
    Calls Tryd.prog 34 #[.agg #[.slice A l.names.length c, .slice B l.order.length d], .int .i64 a] w fun e w' => ∃ v, e = .returned v ∧ (Kd.int .i64).R 3 w' w.heap.size (fun _ => True) v (belowN l a l.names.length) ∧ Below w.heap.size w w' := by
  have KL := Lib.hid (fun (b : Int) t (ht : leqB l b a = t) => kept2 (Q := fun e _ => e = .returned (.bool t)) (f := 26) (args := #[.agg #[.slice A l.names.length c, .slice B l.order.length d], .int .i64 b, .int .i64 a]) h hT (fun W hl htb => by rw [← ht]; exact refleq_calls l A B c d b a W hl hs htb))
  have hF := boxed (n := l.names.length) (m := l.order.length) h hT
  obtain ⟨c0, c1, hl0, hbw0, _⟩ := hF _ (Below.refl _ _)
  have HB0 := Lib.hid (Below.refl (w.alloc (.cells #[.slice A l.names.length c, .slice B l.order.length d] 25)).heap.size (w.alloc (.cells #[.slice A l.names.length c, .slice B l.order.length d] 25)))
  have HF := Lib.hid hF
  have hmn := (C_len h.2.2.1).2
  have hmo := (C_len h.2.2.2).2
  have HR0 : Hid ((Kd.int .i64).R 3 (w.alloc (.cells #[.slice A l.names.length c, .slice B l.order.length d] 25)) (w.heap.size + 1) (fun _ => True) (.slice none 0 0) (belowN l a 0)) := Lib.hid (Kd.R_nil _ _ _ _ _)
  clear hF hl0 hbw0 h hs hT
  go_enter Tryd.func34, Tryd.ntmps34
  go_wp2_with fail
  clear c0 c1
  go_loopg [5, 6] (l.names.length) (fun g v i wx => ∃ k : Nat, i = .int .i64 k ∧ k ≤ l.names.length ∧ g = l.names.length - k ∧ Hid (Below (w.alloc (.cells #[.slice A l.names.length c, .slice B l.order.length d] 25)).heap.size (w.alloc (.cells #[.slice A l.names.length c, .slice B l.order.length d] 25)) wx) ∧ Hid ((Kd.int .i64).R 3 wx (w.heap.size + 1) (fun _ => True) v (belowN l a k)))
  case atStart => exact ⟨0, rfl, Nat.zero_le _, rfl, HB0, HR0⟩
  case round =>
    obtain ⟨k, rfl, hk, rfl, hbr, hR⟩ := hrel
    obtain ⟨c0, c1, _, hbw, _⟩ := HF.out _ hbr.out
    have HBW := Lib.hid hbw
    obtain ⟨A1, cc, rfl⟩ := Kd.R_slice hR.out
    have hmk : (belowN l a k).length ≤ k := belowN_len l a k
    clear hbw
    by_cases hlt : k < l.names.length
    · obtain ⟨t, ht⟩ : ∃ t, leqB l k a = t := ⟨_, rfl⟩
      have HT := Lib.hid ht
      clear ht
      go_wp2_with fail
      refine (KL.out _ t HT.out _ hbr.out).mono ?_
      rintro e w1 ⟨rfl, hb1, s0, s1, hb2⟩
      have HR1 := Lib.hid (Kd.R_below hR.out hb2)
      have HB1 := Lib.hid hb1
      clear hb1 hb2 c0 c1 s0 s1
      cases t with
      | false =>
        have HRN := Lib.hid (show (Kd.int .i64).R 3 w1 (w.heap.size + 1) (fun _ => True) (.slice A1 (belowN l a k).length cc) (belowN l a (k + 1)) by rw [belowN_no HT.out]; exact HR1.out)
        go_wp2
        go_roundg (l.names.length - (k + 1))
        case measure => omega
        case rel => exact ⟨k + 1, by go_num, by omega, rfl, HB1, HRN⟩
      | true =>
        have hbb := HB1.out
        rw [alloc_size] at hbb
        have HBB := Lib.hid hbb
        have hsz1 := hbb.size
        rw [alloc_size] at hsz1
        clear hbb
        go_wp2_with (at_builtin; (refine Kd.R_append (Kd.int .i64) (w0 := (w.alloc (.cells #[.slice A l.names.length c, .slice B l.order.length d] 25))) (w.heap.size + 1) rfl (.tmp 18) (.tmp 20) 42 3 (.int .i64 0) 8 rfl Tryd.underlying42 infoInt rfl (by decide) (by omega) (.slice A1 (belowN l a k).length cc) (belowN l a k) (k : Int) [.int .i64 k] (fun _ => True) (fun _ => False) rfl rfl rfl (fun _ hf => hf.elim) (fun _ _ => trivial) HR1.out HBB.out (by omega) (by omega) ?_); intro v1 w2 hR2 hb2 hg hat; rw [← belowN_yes HT.out] at hR2; have HR2 := Lib.hid hR2; have HB2 := Lib.hid hb2; clear hR2 hb2 hg hat)
        have hb3 := HB2.out
        rw [show w.heap.size + 1 = (w.alloc (.cells #[.slice A l.names.length c, .slice B l.order.length d] 25)).heap.size from (alloc_size w _).symm] at hb3
        have HB3 := Lib.hid hb3
        clear hb3
        go_roundg (l.names.length - (k + 1))
        case measure => omega
        case rel => exact ⟨k + 1, by go_num, by omega, rfl, HB3, HR2⟩
    · obtain rfl : k = l.names.length := by omega
      go_wp2
      go_ret
      exact ⟨_, rfl, Kd.R_lower hR.out (by omega), HBW.out⟩
noncomputable def findI (l : Lat) (s : ByteArray) : Int := if formedB l then idxS l.names s else -1
set_option maxHeartbeats 800000 in
theorem find_calls (l : Lat) (A B : Option Addr) (c d : Nat) (s : ByteArray) (w : World) (h : LR w l A c B d) (hs : Ns l) (hT : Tb w) :
    Calls Tryd.prog 24 #[.agg #[.slice A l.names.length c, .slice B l.order.length d], .string s] w fun e w' => e = .returned (.int .i64 (findI l s)) ∧ Below w.heap.size w w' := by
  obtain ⟨f, hf⟩ : ∃ f, f = formedB l := ⟨_, rfl⟩
  have hF := boxed (n := l.names.length) (m := l.order.length) h hT
  obtain ⟨c0, c1, hl0, hbw0, htb0⟩ := hF _ (Below.refl _ _)
  have hcall := formed_c l A B c d _ hl0 hs htb0
  rw [← hf] at hcall
  have HCALL := Lib.hid hcall
  have HF := Lib.hid hF
  have HBW := Lib.hid hbw0
  have HFM := Lib.hid hf
  clear hcall hF hl0 hbw0 htb0 h hs hT hf
  cases f with
  | false =>
    have HRES := Lib.hid (show findI l s = -1 by rw [findI, ← HFM.out]; rfl)
    go_enter Tryd.func24, Tryd.ntmps24
    go_wp2_with (go_at_call 11; refine HCALL.out.mono ?_; rintro e w3 ⟨rfl, hb3⟩)
    go_ret
    exact ⟨ret_int HRES.out.symm, below_step HBW.out hb3⟩
  | true =>
    have HRES := Lib.hid (show findI l s = idxS l.names s by rw [findI, ← HFM.out]; rfl)
    clear c0 c1
    go_enter Tryd.func24, Tryd.ntmps24
    go_wp2_with fail
    refine HCALL.out.mono ?_
    rintro e w3 ⟨rfl, hb3⟩
    obtain ⟨c0, c1, hl, hbw, htb⟩ := HF.out _ hb3
    have hix := index_calls l.names A c s _ hl.2.2.1
    have HIX := Lib.hid hix
    have HBW3 := Lib.hid hbw
    clear hix hl hbw htb hb3
    go_wp2_with (go_at_call 51; refine HIX.out.mono ?_; rintro e w4 ⟨rfl, rfl⟩)
    go_ret
    exact ⟨ret_int HRES.out.symm, HBW3.out⟩
set_option maxHeartbeats 1600000 in
theorem sameints_calls (xs ys : List Int) (A B : Option Addr) (c d : Nat) (w : World) (hx : (Kd.int .i64).C w A xs.length xs) (hy : (Kd.int .i64).C w B ys.length ys) :
    Calls Tryd.prog 33 #[.slice A xs.length c, .slice B ys.length d] w fun e w' => e = .returned (.bool (eqB xs ys)) ∧ Below w.heap.size w w' := by
  have HX := Lib.hid hx
  have HY := Lib.hid hy
  have m1 := (C_len hx).2
  have m2 := (C_len hy).2
  clear hx hy
  by_cases hl : xs.length = ys.length
  · have t1 := len_eq hl
    have n1 : xs.length ≤ ys.length := by omega
    have n2 : ys.length ≤ xs.length := by omega
    have HL := Lib.hid hl
    clear hl
    go_enter Tryd.func33, Tryd.ntmps33
    go_wp2_with fail
    go_loopg [5] (xs.length) (fun g i wx => ∃ k : Nat, i = .int .i64 k ∧ k ≤ xs.length ∧ g = xs.length - k ∧ Hid (Below w.heap.size w wx) ∧ Hid (∀ j, j < k → xs.getD j 0 = ys.getD j 0))
    case atStart => exact ⟨0, rfl, Nat.zero_le _, rfl, Lib.hid (Below.refl _ _), Lib.hid (fun j hj => absurd hj (by omega))⟩
    case round =>
      obtain ⟨k, rfl, hk, rfl, hbw, hall⟩ := hrel
      by_cases hlt : k < xs.length
      · obtain ⟨ad, rfl, hc⟩ := C_int_get (Kd.C_below HX.out hbw.out) hlt
        obtain ⟨ad2, rfl, hc2⟩ := C_int_get (Kd.C_below HY.out hbw.out) (show k < ys.length by omega)
        obtain ⟨x, hxx⟩ : ∃ x, x = xs.getD k 0 := ⟨_, rfl⟩
        obtain ⟨y, hyy⟩ : ∃ y, y = ys.getD k 0 := ⟨_, rfl⟩
        rw [← hxx] at hc
        rw [← hyy] at hc2
        have HXX := Lib.hid hxx
        have HYY := Lib.hid hyy
        clear hxx hyy
        by_cases he : x = y
        · subst he
          have s1 : (x == x) = true := by simp
          have s2 : (x != x) = false := by simp
          have HALL := Lib.hid (upto_succ hall.out (by rw [← HXX.out, ← HYY.out]))
          go_wp2_with fail
          go_quiet (fail)
          go_wp2
          go_roundg (xs.length - (k + 1))
          case measure => omega
          case rel => exact ⟨k + 1, by go_num, by omega, rfl, Lib.hid (pw_below_drewN hbw.out _), HALL⟩
        · have s1 : (x == y) = false := beq_eq_false_iff_ne.2 he
          have s2 : (x != y) = true := bne_iff_ne.2 he
          have hres : eqB xs ys = false := eqB_false (fun e => he (by rw [HXX.out, HYY.out, e]))
          have HRES := Lib.hid hres
          clear hres he
          go_wp2_with fail
          go_quiet (fail)
          go_wp2
          go_ret
          exact ⟨ret_bool HRES.out.symm, pw_below_drewN hbw.out _⟩
      · obtain rfl : k = xs.length := by omega
        have hres : eqB xs ys = true := eqB_true (list_ext 0 HL.out hall.out)
        have HRES := Lib.hid hres
        clear hres
        go_wp2
        go_ret
        exact ⟨ret_bool HRES.out.symm, hbw.out⟩
  · have t1 := len_ne hl
    have hres : eqB xs ys = false := eqB_false (fun e => hl (by rw [e]))
    have HRES := Lib.hid hres
    clear hres hl
    go_enter Tryd.func33, Tryd.ntmps33
    go_wp2
    go_ret
    exact ⟨ret_bool HRES.out.symm, Below.refl _ _⟩
end
end Go.Proofs.YtokogcfcaehifaaDoor.Ask
