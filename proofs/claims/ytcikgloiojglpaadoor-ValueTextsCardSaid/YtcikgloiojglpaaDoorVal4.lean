/- Same of the program's package value and of the reference, at every two values. No condition. -/
import Derived.Test.YtcikgloiojglpaaDoorVal3
import Derived.Deep.RegionHeld3
namespace Go.Proofs.YtcikgloiojglpaaDoor.Val
set_option linter.unusedVariables false
set_option linter.unusedSimpArgs false
open Go.RowKit Go.Proofs.YtcikgloiojglpaaDoorW.PrintWords Go.Proofs.YtcikgloiojglpaaDoor.Aux Go.Proofs.YtcikgloiojglpaaDoor.Kinds Go.Proofs.YtcikgloiojglpaaDoor.ValSpec
/-- What is known of telling a part from others. -/
def Eqs (f : Nat) (ps : List V) : Prop := ∀ p, p ∈ ps → ∀ (q : V) A c A2 c2 W, VR W p A c → VR W q A2 c2 → Calls Tryd.prog f #[.agg #[.int .i64 p.f0, .int .i64 p.f1, .slice A p.f2.length c], .agg #[.int .i64 q.f0, .int .i64 q.f1, .slice A2 q.f2.length c2]] W fun e w' => e = .returned (.bool (eqB p q)) ∧ Below W.heap.size W w'
theorem V_ext {a b : V} (h0 : a.f0 = b.f0) (h1 : a.f1 = b.f1) (h2 : a.f2 = b.f2) : a = b := by cases a; cases b; simp_all
set_option maxRecDepth 100000 in
set_option maxHeartbeats 1600000 in
theorem equalf_calls (xs ys : List V) (A B : Option Addr) (c d : Nat) (w : World) (hx : kV.C w A xs.length xs) (hy : kV.C w B ys.length ys) (hI : Eqs 9 xs) :
    Calls Tryd.prog 16 #[.slice A xs.length c, .slice B ys.length d, .func (.func 9) #[] #[]] w fun e w' => e = .returned (.bool (eqB xs ys)) ∧ Below w.heap.size w w' := by
  have HX := Lib.hid hx
  have HY := Lib.hid hy
  have HI := Lib.hid hI
  have m1 := (C_len hx).2
  have m2 := (C_len hy).2
  clear hx hy hI
  by_cases hl : xs.length = ys.length
  · have t1 := len_eq hl
    have n1 : xs.length ≤ ys.length := by omega
    have n2 : ys.length ≤ xs.length := by omega
    have HL := Lib.hid hl
    clear hl
    go_enter Tryd.func16, Tryd.ntmps16
    go_wp2_with fail
    go_loopg [17] (xs.length) (fun g i wx => ∃ k : Nat, i = .int .i64 k ∧ k ≤ xs.length ∧ g = xs.length - k ∧ Hid (Below w.heap.size w wx) ∧ Hid (∀ j, j < k → xs.getD j zV = ys.getD j zV))
    case atStart => exact ⟨0, rfl, Nat.zero_le _, rfl, Lib.hid (Below.refl _ _), Lib.hid (fun j hj => absurd hj (by omega))⟩
    case round =>
      obtain ⟨k, rfl, hk, rfl, hbw, hall⟩ := hrel
      by_cases hlt : k < xs.length
      · obtain ⟨ad, A1, c1, rfl, e0, e1, e2, hp⟩ := el (Kd.C_below HX.out hbw.out) hlt
        obtain ⟨ad2, A2, c2, rfl, f0, f1, f2, hq⟩ := el (Kd.C_below HY.out hbw.out) (show k < ys.length by omega)
        have hip := HI.out _ (getD_mem hlt)
        obtain ⟨p, hpp⟩ : ∃ p, p = xs.getD k zV := ⟨_, rfl⟩
        obtain ⟨q, hqq⟩ : ∃ p, p = ys.getD k zV := ⟨_, rfl⟩
        rw [← hpp] at e0 e1 e2 hp hip
        rw [← hqq] at f0 f1 f2 hq
        have hb1 := below_alloc (Below.refl wr.heap.size wr) (.cells #[.int .i64 p.f0, .int .i64 p.f1, .slice A1 p.f2.length c1] 24)
        have hb2 := below_alloc hb1 (.cells #[.int .i64 q.f0, .int .i64 q.f1, .slice A2 q.f2.length c2] 24)
        have g0 := pw_cell_below hb1 f0
        have g1 := pw_cell_below hb1 f1
        have g2 := pw_cell_below hb1 f2
        obtain ⟨t, ht⟩ : ∃ t, eqB p q = t := ⟨_, rfl⟩
        have hcall := hip q A1 c1 A2 c2 _ (hp.below hb2) (hq.below hb2)
        rw [ht] at hcall
        have HCALL := Lib.hid hcall
        have HB2 := Lib.hid (below_step hbw.out hb2)
        have HT := Lib.hid ht
        have HP := Lib.hid hpp
        have HQ := Lib.hid hqq
        clear hcall ht hp hq hip hb1 hb2 hpp hqq
        cases t with
        | true =>
          have HALL := Lib.hid (upto_succ hall.out (by rw [← HP.out, ← HQ.out]; exact of_eqB HT.out))
          go_wp2_with fail
          refine HCALL.out.mono ?_
          rintro e w1 ⟨rfl, hb3⟩
          go_wp2
          go_roundg (xs.length - (k + 1))
          case measure => omega
          case rel => exact ⟨k + 1, by go_num, by omega, rfl, Lib.hid (below_step HB2.out hb3), HALL⟩
        | false =>
          have HRES := Lib.hid (show eqB xs ys = false from eqB_false (fun e => by have := HT.out; rw [HP.out, HQ.out, e, eqB_true rfl] at this; cases this))
          go_wp2_with fail
          refine HCALL.out.mono ?_
          rintro e w1 ⟨rfl, hb3⟩
          go_wp2
          go_ret
          exact ⟨ret_bool HRES.out.symm, below_step HB2.out hb3⟩
      · obtain rfl : k = xs.length := by omega
        have HRES := Lib.hid (show eqB xs ys = true from eqB_true (list_ext zV HL.out hall.out))
        go_wp2
        go_ret
        exact ⟨ret_bool HRES.out.symm, hbw.out⟩
  · have t1 := len_ne hl
    have HRES := Lib.hid (show eqB xs ys = false from eqB_false (fun e => hl (by rw [e])))
    clear hl
    go_enter Tryd.func16, Tryd.ntmps16
    go_wp2
    go_ret
    exact ⟨ret_bool HRES.out.symm, Below.refl _ _⟩
/-- Two values in their boxes. -/
theorem boxV2 {w : World} {v u : V} {A A2 : Option Addr} {c c2 : Nat} (h : VR w v A c) (h2 : VR w u A2 c2) : ∀ W, Below ((w.alloc (.cells #[.int .i64 v.f0, .int .i64 v.f1, .slice A v.f2.length c] 24)).alloc (.cells #[.int .i64 u.f0, .int .i64 u.f1, .slice A2 u.f2.length c2] 24)).heap.size ((w.alloc (.cells #[.int .i64 v.f0, .int .i64 v.f1, .slice A v.f2.length c] 24)).alloc (.cells #[.int .i64 u.f0, .int .i64 u.f1, .slice A2 u.f2.length c2] 24)) W → (W.cell? ⟨w.heap.size, 0, none⟩ = some (.int .i64 v.f0) ∧ W.cell? ⟨w.heap.size, 1, none⟩ = some (.int .i64 v.f1) ∧ W.cell? ⟨w.heap.size, 2, none⟩ = some (.slice A v.f2.length c)) ∧ (W.cell? ⟨w.heap.size + 1, 0, none⟩ = some (.int .i64 u.f0) ∧ W.cell? ⟨w.heap.size + 1, 1, none⟩ = some (.int .i64 u.f1) ∧ W.cell? ⟨w.heap.size + 1, 2, none⟩ = some (.slice A2 u.f2.length c2)) ∧ VR W v A c ∧ VR W u A2 c2 ∧ Below w.heap.size w W := fun W hW => by
  have hb1 := below_alloc (Below.refl w.heap.size w) (.cells #[.int .i64 v.f0, .int .i64 v.f1, .slice A v.f2.length c] 24)
  have hb2 := below_alloc hb1 (.cells #[.int .i64 u.f0, .int .i64 u.f1, .slice A2 u.f2.length c2] 24)
  have hbw := below_step hb2 hW
  have k1 := blk_below (blk_below (blk_new w (.cells #[.int .i64 v.f0, .int .i64 v.f1, .slice A v.f2.length c] 24)) (below_alloc (Below.refl _ _) (.cells #[.int .i64 u.f0, .int .i64 u.f1, .slice A2 u.f2.length c2] 24))) hW
  have k2 := blk_below (blk_new (w.alloc (.cells #[.int .i64 v.f0, .int .i64 v.f1, .slice A v.f2.length c] 24)) (.cells #[.int .i64 u.f0, .int .i64 u.f1, .slice A2 u.f2.length c2] 24)) hW
  rw [alloc_size] at k2
  exact ⟨⟨(blk_cell k1 0).trans rfl, (blk_cell k1 1).trans rfl, (blk_cell k1 2).trans rfl⟩, ⟨(blk_cell k2 0).trans rfl, (blk_cell k2 1).trans rfl, (blk_cell k2 2).trans rfl⟩, h.below hbw, h2.below hbw, hbw⟩
theorem int_eq {a b : Int} (h : a = b) : (a == b) = true ∧ (a != b) = false := by simp [h]
theorem int_ne {a b : Int} (h : a ≠ b) : (a == b) = false ∧ (a != b) = true := by simp [h]
set_option maxRecDepth 100000 in
set_option maxHeartbeats 1600000 in
theorem same_core (v u : V) (A A2 : Option Addr) (c c2 : Nat) (w : World) (h : VR w v A c) (h2 : VR w u A2 c2) (hI : Eqs 9 v.f2) :
    Calls Tryd.prog 9 #[.agg #[.int .i64 v.f0, .int .i64 v.f1, .slice A v.f2.length c], .agg #[.int .i64 u.f0, .int .i64 u.f1, .slice A2 u.f2.length c2]] w fun e w' => e = .returned (.bool (eqB v u)) ∧ Below w.heap.size w w' := by
  have hF := boxV2 h h2
  obtain ⟨⟨c0, c1, c2'⟩, ⟨d0, d1, d2'⟩, hv, hu, hbw⟩ := hF _ (Below.refl _ _)
  have HC := Lib.hid (equalf_calls v.f2 u.f2 A A2 c c2 _ hv.2 hu.2 hI)
  have HB := Lib.hid hbw
  clear hv hu hbw hF h h2 hI
  by_cases k0 : v.f0 = u.f0
  · obtain ⟨e0, e0'⟩ := int_eq k0
    by_cases k1 : v.f1 = u.f1
    · obtain ⟨e1, e1'⟩ := int_eq k1
      obtain ⟨t, ht⟩ : ∃ t, eqB v.f2 u.f2 = t := ⟨_, rfl⟩
      rw [ht] at HC
      have HRES := Lib.hid (show eqB v u = t by
        rw [← ht]
        by_cases k2 : v.f2 = u.f2
        · rw [eqB_true k2, eqB_true (V_ext k0 k1 k2)]
        · rw [eqB_false k2, eqB_false (fun e => k2 (by rw [e]))])
      clear k0 k1 ht
      go_enter Tryd.func9, Tryd.ntmps9
      go_wp2_with (go_at_call 16; refine HC.out.mono ?_; rintro e w1 ⟨rfl, hb1⟩)
      go_ret
      exact ⟨ret_bool HRES.out.symm, below_step HB.out hb1⟩
    · obtain ⟨e1, e1'⟩ := int_ne k1
      have HRES := Lib.hid (show eqB v u = false from eqB_false (fun e => k1 (by rw [e])))
      clear k0 k1
      go_enter Tryd.func9, Tryd.ntmps9
      go_wp2
      go_ret
      exact ⟨ret_bool HRES.out.symm, HB.out⟩
  · obtain ⟨e0, e0'⟩ := int_ne k0
    have HRES := Lib.hid (show eqB v u = false from eqB_false (fun e => k0 (by rw [e])))
    clear k0
    go_enter Tryd.func9, Tryd.ntmps9
    go_wp2
    go_ret
    exact ⟨ret_bool HRES.out.symm, HB.out⟩
theorem same_k : ∀ (k : Nat) (v u : V) (A A2 : Option Addr) (c c2 : Nat) (w : World), size v ≤ k → VR w v A c → VR w u A2 c2 →
    Calls Tryd.prog 9 #[.agg #[.int .i64 v.f0, .int .i64 v.f1, .slice A v.f2.length c], .agg #[.int .i64 u.f0, .int .i64 u.f1, .slice A2 u.f2.length c2]] w fun e w' => e = .returned (.bool (eqB v u)) ∧ Below w.heap.size w w' := by
  intro k
  induction k with
  | zero => intro v u A A2 c c2 w hk; have := size_pos v; omega
  | succ k ih =>
    intro v u A A2 c c2 w hk h h2
    exact same_core v u A A2 c c2 w h h2 (fun p hp q A c A2 c2 W hV hV2 => ih p q A A2 c c2 W (by have := size_part hp; omega) hV hV2)
theorem same_calls (v u : V) (A A2 : Option Addr) (c c2 : Nat) (w : World) (h : VR w v A c) (h2 : VR w u A2 c2) :
    Calls Tryd.prog 9 #[.agg #[.int .i64 v.f0, .int .i64 v.f1, .slice A v.f2.length c], .agg #[.int .i64 u.f0, .int .i64 u.f1, .slice A2 u.f2.length c2]] w fun e w' => e = .returned (.bool (eqB v u)) ∧ Below w.heap.size w w' := same_k (size v) v u A A2 c c2 w (Nat.le_refl _) h h2
set_option maxRecDepth 100000 in
set_option maxHeartbeats 3200000 in
theorem refsame_core (v u : V) (A A2 : Option Addr) (c c2 : Nat) (w : World) (h : VR w v A c) (h2 : VR w u A2 c2) (hI : Eqs 8 v.f2) :
    Calls Tryd.prog 8 #[.agg #[.int .i64 v.f0, .int .i64 v.f1, .slice A v.f2.length c], .agg #[.int .i64 u.f0, .int .i64 u.f1, .slice A2 u.f2.length c2]] w fun e w' => e = .returned (.bool (eqB v u)) ∧ Below w.heap.size w w' := by
  have hF := boxV2 h h2
  obtain ⟨⟨c0, c1, c2'⟩, ⟨d0, d1, d2'⟩, hv, hu, hbw⟩ := hF _ (Below.refl _ _)
  have HB := Lib.hid hbw
  have m1 := (C_len h.2).2
  have m2 := (C_len h2.2).2
  have HI := Lib.hid hI
  by_cases k0 : v.f0 = u.f0
  · obtain ⟨e0, e0'⟩ := int_eq k0
    by_cases k1 : v.f1 = u.f1
    · obtain ⟨e1, e1'⟩ := int_eq k1
      by_cases k2 : v.f2.length = u.f2.length
      · have t1 := len_eq k2
        have n1 : v.f2.length ≤ u.f2.length := by omega
        have n2 : u.f2.length ≤ v.f2.length := by omega
        have HK0 := Lib.hid k0
        have HK1 := Lib.hid k1
        have HK2 := Lib.hid k2
        obtain ⟨W0, hW0⟩ : ∃ W0, W0 = (w.alloc (.cells #[.int .i64 v.f0, .int .i64 v.f1, .slice A v.f2.length c] 24)).alloc (.cells #[.int .i64 u.f0, .int .i64 u.f1, .slice A2 u.f2.length c2] 24) := ⟨_, rfl⟩
        rw [← hW0] at hF
        have HW0 : Hid (Below W0.heap.size W0 ((w.alloc (.cells #[.int .i64 v.f0, .int .i64 v.f1, .slice A v.f2.length c] 24)).alloc (.cells #[.int .i64 u.f0, .int .i64 u.f1, .slice A2 u.f2.length c2] 24))) := Lib.hid (by rw [← hW0]; exact Below.refl _ _)
        have HF := Lib.hid hF
        clear k0 k1 k2 hW0 hF hv hu hbw h h2 hI
        go_enter Tryd.func8, Tryd.ntmps8
        go_wp2_with fail
        clear c0 c1 c2' d0 d1 d2'
        go_loopg [5] (v.f2.length) (fun g i wx => ∃ k : Nat, i = .int .i64 k ∧ k ≤ v.f2.length ∧ g = v.f2.length - k ∧ Hid (Below W0.heap.size W0 wx) ∧ Hid (∀ j, j < k → v.f2.getD j zV = u.f2.getD j zV))
        case atStart => exact ⟨0, rfl, Nat.zero_le _, rfl, HW0, Lib.hid (fun j hj => absurd hj (by omega))⟩
        case round =>
          obtain ⟨k, rfl, hk, rfl, hbr, hall⟩ := hrel
          obtain ⟨⟨c0, c1, c2'⟩, ⟨d0, d1, d2'⟩, hv, hu, hbw⟩ := HF.out _ hbr.out
          have HBW := Lib.hid hbw
          by_cases hlt : k < v.f2.length
          · obtain ⟨ad, A1, c1x, hA, p0, p1, p2, hp⟩ := el hv.2 hlt
            subst hA
            obtain ⟨ad2, A3, c3, hA, q0, q1, q2, hq⟩ := el hu.2 (show k < u.f2.length by omega)
            subst hA
            have hip := HI.out _ (getD_mem hlt)
            obtain ⟨p, hpp⟩ : ∃ p, p = v.f2.getD k zV := ⟨_, rfl⟩
            obtain ⟨q, hqq⟩ : ∃ p, p = u.f2.getD k zV := ⟨_, rfl⟩
            rw [← hpp] at p0 p1 p2 hp hip
            rw [← hqq] at q0 q1 q2 hq
            obtain ⟨t, ht⟩ : ∃ t, eqB p q = t := ⟨_, rfl⟩
            have KC := Lib.hid (show ∀ W, Below wr.heap.size wr W → Calls Tryd.prog 8 #[.agg #[.int .i64 p.f0, .int .i64 p.f1, .slice A1 p.f2.length c1x], .agg #[.int .i64 q.f0, .int .i64 q.f1, .slice A3 q.f2.length c3]] W fun e w' => e = .returned (.bool t) ∧ Below wr.heap.size wr w' ∧ w'.cell? ⟨w.heap.size, 2, none⟩ = some (.slice (some ad) v.f2.length c) ∧ w'.cell? ⟨w.heap.size + 1, 2, none⟩ = some (.slice (some ad2) u.f2.length c2) ∧ w'.cell? (ad.add (k * 3)) = some (.int .i64 p.f0) ∧ w'.cell? ⟨(ad.add (k * 3)).block, (ad.add (k * 3)).off + 1, none⟩ = some (.int .i64 p.f1) ∧ w'.cell? ⟨(ad.add (k * 3)).block, (ad.add (k * 3)).off + 2, none⟩ = some (.slice A1 p.f2.length c1x) ∧ w'.cell? (ad2.add (k * 3)) = some (.int .i64 q.f0) ∧ w'.cell? ⟨(ad2.add (k * 3)).block, (ad2.add (k * 3)).off + 1, none⟩ = some (.int .i64 q.f1) ∧ w'.cell? ⟨(ad2.add (k * 3)).block, (ad2.add (k * 3)).off + 2, none⟩ = some (.slice A3 q.f2.length c3) from fun W hW => by
              have hcall := hip q A1 c1x A3 c3 W (hp.below hW) (hq.below hW)
              rw [ht] at hcall
              refine hcall.mono ?_
              rintro e w' ⟨he, hb⟩
              have hb' := below_step hW hb
              exact ⟨he, hb', pw_cell_below hb' c2', pw_cell_below hb' d2', pw_cell_below hb' p0, pw_cell_below hb' p1, pw_cell_below hb' p2, pw_cell_below hb' q0, pw_cell_below hb' q1, pw_cell_below hb' q2⟩)
            have HT := Lib.hid ht
            have HP := Lib.hid hpp
            have HQ := Lib.hid hqq
            have hb0 := Below.refl wr.heap.size wr
            have hk1 : (k : Int) < (v.f2.length : Int) := by omega
            have hk2 : (k : Int) < (u.f2.length : Int) := by omega
            have hk3 : (0 : Int) ≤ (k : Int) := by omega
            have hk4 : k < u.f2.length := by omega
            clear hip hp hq hpp hqq hv hu hbw c0 c1 d0 d1 ht
            cases t with
            | true =>
              have HALL := Lib.hid (upto_succ hall.out (by rw [← HP.out, ← HQ.out]; exact of_eqB HT.out))
              go_wp2_with fail
              go_region_held3 (fun w' => w'.cell? ⟨w.heap.size, 2, none⟩ = some (.slice (some ad) v.f2.length c) ∧ w'.cell? ⟨w.heap.size + 1, 2, none⟩ = some (.slice (some ad2) u.f2.length c2) ∧ w'.cell? (ad.add (k * 3)) = some (.int .i64 p.f0) ∧ w'.cell? ⟨(ad.add (k * 3)).block, (ad.add (k * 3)).off + 1, none⟩ = some (.int .i64 p.f1) ∧ w'.cell? ⟨(ad.add (k * 3)).block, (ad.add (k * 3)).off + 2, none⟩ = some (.slice A1 p.f2.length c1x) ∧ w'.cell? (ad2.add (k * 3)) = some (.int .i64 q.f0) ∧ w'.cell? ⟨(ad2.add (k * 3)).block, (ad2.add (k * 3)).off + 1, none⟩ = some (.int .i64 q.f1) ∧ w'.cell? ⟨(ad2.add (k * 3)).block, (ad2.add (k * 3)).off + 2, none⟩ = some (.slice A3 q.f2.length c3))
                (first | go_keep | exact ⟨s0, s1, s2, s3, s4, s5, s6, s7⟩)
                ((go_at_call 8; refine (KC.out _ (by first | assumption | exact Below.drew (by assumption))).mono ?_; rintro e wa ⟨rfl, hba, s0, s1, s2, s3, s4, s5, s6, s7⟩))
              have HBA := Lib.hid (below_step hbr.out hba)
              clear hba hb0 s0 s1 s2 s3 s4 s5 s6 s7 p0 p1 p2 q0 q1 q2 c2' d2'
              go_wp2
              go_roundg (v.f2.length - (k + 1))
              case measure => omega
              case rel => exact ⟨k + 1, by go_num, by omega, rfl, HBA, HALL⟩
            | false =>
              have HRES := Lib.hid (show eqB v u = false from eqB_false (fun e => by have := HT.out; rw [HP.out, HQ.out, e, eqB_true rfl] at this; cases this))
              go_wp2_with fail
              go_region_held3 (fun w' => w'.cell? ⟨w.heap.size, 2, none⟩ = some (.slice (some ad) v.f2.length c) ∧ w'.cell? ⟨w.heap.size + 1, 2, none⟩ = some (.slice (some ad2) u.f2.length c2) ∧ w'.cell? (ad.add (k * 3)) = some (.int .i64 p.f0) ∧ w'.cell? ⟨(ad.add (k * 3)).block, (ad.add (k * 3)).off + 1, none⟩ = some (.int .i64 p.f1) ∧ w'.cell? ⟨(ad.add (k * 3)).block, (ad.add (k * 3)).off + 2, none⟩ = some (.slice A1 p.f2.length c1x) ∧ w'.cell? (ad2.add (k * 3)) = some (.int .i64 q.f0) ∧ w'.cell? ⟨(ad2.add (k * 3)).block, (ad2.add (k * 3)).off + 1, none⟩ = some (.int .i64 q.f1) ∧ w'.cell? ⟨(ad2.add (k * 3)).block, (ad2.add (k * 3)).off + 2, none⟩ = some (.slice A3 q.f2.length c3))
                (first | go_keep | exact ⟨s0, s1, s2, s3, s4, s5, s6, s7⟩)
                ((go_at_call 8; refine (KC.out _ (by first | assumption | exact Below.drew (by assumption))).mono ?_; rintro e wa ⟨rfl, hba, s0, s1, s2, s3, s4, s5, s6, s7⟩))
              have HBA := Lib.hid (below_step HBW.out hba)
              clear hba hb0 s0 s1 s2 s3 s4 s5 s6 s7 p0 p1 p2 q0 q1 q2 c2' d2'
              go_wp2
              go_ret
              exact ⟨ret_bool HRES.out.symm, HBA.out⟩
          · obtain rfl : k = v.f2.length := by omega
            have HRES := Lib.hid (show eqB v u = true from eqB_true (V_ext HK0.out HK1.out (list_ext zV HK2.out hall.out)))
            clear hv hu hbw
            go_wp2
            go_ret
            exact ⟨ret_bool HRES.out.symm, HBW.out⟩
      · have t1 := len_ne k2
        have HRES := Lib.hid (show eqB v u = false from eqB_false (fun e => k2 (by rw [e])))
        clear k0 k1 k2 hF hv hu hbw h h2 hI
        go_enter Tryd.func8, Tryd.ntmps8
        go_wp2
        go_ret
        exact ⟨ret_bool HRES.out.symm, HB.out⟩
    · obtain ⟨e1, e1'⟩ := int_ne k1
      have HRES := Lib.hid (show eqB v u = false from eqB_false (fun e => k1 (by rw [e])))
      clear k0 k1 hF hv hu hbw h h2 hI
      go_enter Tryd.func8, Tryd.ntmps8
      go_wp2
      go_ret
      exact ⟨ret_bool HRES.out.symm, HB.out⟩
  · obtain ⟨e0, e0'⟩ := int_ne k0
    have HRES := Lib.hid (show eqB v u = false from eqB_false (fun e => k0 (by rw [e])))
    clear k0 hF hv hu hbw h h2 hI
    go_enter Tryd.func8, Tryd.ntmps8
    go_wp2
    go_ret
    exact ⟨ret_bool HRES.out.symm, HB.out⟩
theorem refsame_k : ∀ (k : Nat) (v u : V) (A A2 : Option Addr) (c c2 : Nat) (w : World), size v ≤ k → VR w v A c → VR w u A2 c2 →
    Calls Tryd.prog 8 #[.agg #[.int .i64 v.f0, .int .i64 v.f1, .slice A v.f2.length c], .agg #[.int .i64 u.f0, .int .i64 u.f1, .slice A2 u.f2.length c2]] w fun e w' => e = .returned (.bool (eqB v u)) ∧ Below w.heap.size w w' := by
  intro k
  induction k with
  | zero => intro v u A A2 c c2 w hk; have := size_pos v; omega
  | succ k ih =>
    intro v u A A2 c c2 w hk h h2
    exact refsame_core v u A A2 c c2 w h h2 (fun p hp q A c A2 c2 W hV hV2 => ih p q A A2 c c2 W (by have := size_part hp; omega) hV hV2)
theorem refsame_calls (v u : V) (A A2 : Option Addr) (c c2 : Nat) (w : World) (h : VR w v A c) (h2 : VR w u A2 c2) :
    Calls Tryd.prog 8 #[.agg #[.int .i64 v.f0, .int .i64 v.f1, .slice A v.f2.length c], .agg #[.int .i64 u.f0, .int .i64 u.f1, .slice A2 u.f2.length c2]] w fun e w' => e = .returned (.bool (eqB v u)) ∧ Below w.heap.size w w' := refsame_k (size v) v u A A2 c c2 w (Nat.le_refl _) h h2
end Go.Proofs.YtcikgloiojglpaaDoor.Val
