/- palisaderef01.Same, lattice.Same and what they call, at every two lattices. No condition. -/
import Derived.Test.YtokogcfcaehifaaDoorBottom
import Derived.Deep.QuietTactic
import Derived.BigQuiet
namespace Go.Proofs.YtokogcfcaehifaaDoor.SameW
set_option linter.unusedVariables false
open Go.RowKit Go.Proofs.YtokogcfcaehifaaDoorW.PrintWords Go.Proofs.YtokogcfcaehifaaDoor.Aux Go.Proofs.YtokogcfcaehifaaDoor.LatSpec Go.Proofs.YtokogcfcaehifaaDoor.LatWalk Go.Proofs.YtokogcfcaehifaaDoor.LatF Go.Proofs.YtokogcfcaehifaaDoor.LatLeq Go.Proofs.YtokogcfcaehifaaDoor.LatJoin
open Classical in
/-- Are two things alike? -/
noncomputable def eqB {α : Type} (x y : α) : Bool := decide (x = y)
theorem eqB_true {α : Type} {x y : α} (h : x = y) : eqB x y = true := by simp [eqB, h]
theorem eqB_false {α : Type} {x y : α} (h : x ≠ y) : eqB x y = false := by simp [eqB, h]
theorem of_eqB {α : Type} {x y : α} (h : eqB x y = true) : x = y := by simpa [eqB] using h
theorem lat_ext {a b : Lat} (h1 : a.names = b.names) (h2 : a.order = b.order) : a = b := by cases a; cases b; simp_all
theorem list_ext {α : Type} {xs ys : List α} (z : α) (hl : xs.length = ys.length) (h : ∀ i, i < xs.length → xs.getD i z = ys.getD i z) : xs = ys :=
  List.ext_getElem hl (fun i h1 h2 => by
    have := h i h1
    rwa [List.getD_eq_getElem?_getD, List.getD_eq_getElem?_getD, List.getElem?_eq_getElem h1, List.getElem?_eq_getElem h2] at this)
theorem upto_succ {P : Nat → Prop} {k : Nat} (h : ∀ j, j < k → P j) (hk : P k) : ∀ j, j < k + 1 → P j := fun j hj => by
  rcases Nat.lt_or_ge j k with h1 | h1
  · exact h j h1
  · obtain rfl : j = k := by omega
    exact hk
theorem str_neq {a b : ByteArray} (h : a ≠ b) : (a.toList != b.toList) = true := by rw [bne, str_ne h]; rfl
theorem str_neq_self (a : ByteArray) : (a.toList != a.toList) = false := by simp
theorem len_ne {a b : Nat} (h : a ≠ b) : ((a : Int) != (b : Int)) = true := by rw [bne_iff_ne]; omega
theorem len_eq {a b : Nat} (h : a = b) : ((a : Int) != (b : Int)) = false := by simp [h]
/-- Two lattices in their boxes. -/
theorem boxed2 {w : World} {a b : Lat} {A B A2 B2 : Option Addr} {c d c2 d2 n m n2 m2 : Nat} (ha : LR w a A c B d) (hb : LR w b A2 c2 B2 d2) : ∀ W, Below ((w.alloc (.cells #[.slice A n c, .slice B m d] 25)).alloc (.cells #[.slice A2 n2 c2, .slice B2 m2 d2] 25)).heap.size ((w.alloc (.cells #[.slice A n c, .slice B m d] 25)).alloc (.cells #[.slice A2 n2 c2, .slice B2 m2 d2] 25)) W → W.cell? ⟨w.heap.size, 0, none⟩ = some (.slice A n c) ∧ W.cell? ⟨w.heap.size, 1, none⟩ = some (.slice B m d) ∧ W.cell? ⟨w.heap.size + 1, 0, none⟩ = some (.slice A2 n2 c2) ∧ W.cell? ⟨w.heap.size + 1, 1, none⟩ = some (.slice B2 m2 d2) ∧ LR W a A c B d ∧ LR W b A2 c2 B2 d2 ∧ Below w.heap.size w W := fun W hW => by
  have hb1 := below_alloc (Below.refl w.heap.size w) (.cells #[.slice A n c, .slice B m d] 25)
  have hb2 := below_alloc hb1 (.cells #[.slice A2 n2 c2, .slice B2 m2 d2] 25)
  have hbw := below_step hb2 hW
  have k1 := blk_below (blk_below (blk_new w (.cells #[.slice A n c, .slice B m d] 25)) (below_alloc (Below.refl _ _) (.cells #[.slice A2 n2 c2, .slice B2 m2 d2] 25))) hW
  have k2 := blk_below (blk_new (w.alloc (.cells #[.slice A n c, .slice B m d] 25)) (.cells #[.slice A2 n2 c2, .slice B2 m2 d2] 25)) hW
  rw [alloc_size] at k2
  exact ⟨(blk_cell k1 0).trans rfl, (blk_cell k1 1).trans rfl, (blk_cell k2 0).trans rfl, (blk_cell k2 1).trans rfl, ha.below hbw, hb.below hbw, hbw⟩
set_option maxHeartbeats 1600000 in
theorem equals_calls (xs ys : List ByteArray) (A B : Option Addr) (c d : Nat) (w : World) (hx : Kd.string.C w A xs.length xs) (hy : Kd.string.C w B ys.length ys) :
    Calls Tryd.prog 47 #[.slice A xs.length c, .slice B ys.length d] w fun e w' => e = .returned (.bool (eqB xs ys)) ∧ Below w.heap.size w w' := by
  have HX := Lib.hid hx
  have HY := Lib.hid hy
  have m1 := (C_len hx).2
  have m2 := (C_len hy).2
  clear hx hy
  by_cases hl : xs.length = ys.length
  · have t1 := len_eq hl
    have n1 : xs.length ≤ ys.length := by omega
    have n2 : ys.length ≤ xs.length := by omega
    have HL := Lib.hid hl
    clear hl
    go_enter Tryd.func47, Tryd.ntmps47
    go_wp2_with fail
    go_loopg [13] (xs.length) (fun g i wx => ∃ k : Nat, i = .int .i64 k ∧ k ≤ xs.length ∧ g = xs.length - k ∧ Hid (Below w.heap.size w wx) ∧ Hid (∀ j, j < k → xs.getD j ByteArray.empty = ys.getD j ByteArray.empty))
    case atStart => exact ⟨0, rfl, Nat.zero_le _, rfl, Lib.hid (Below.refl _ _), Lib.hid (fun j hj => absurd hj (by omega))⟩
    case round =>
      obtain ⟨k, rfl, hk, rfl, hbw, hall⟩ := hrel
      by_cases hlt : k < xs.length
      · obtain ⟨ad, rfl, hc⟩ := C_str_get (Kd.C_below HX.out hbw.out) hlt
        obtain ⟨ad2, rfl, hc2⟩ := C_str_get (Kd.C_below HY.out hbw.out) (show k < ys.length by omega)
        obtain ⟨x, hxx⟩ : ∃ x, x = xs.getD k ByteArray.empty := ⟨_, rfl⟩
        obtain ⟨y, hyy⟩ : ∃ y, y = ys.getD k ByteArray.empty := ⟨_, rfl⟩
        rw [← hxx] at hc
        rw [← hyy] at hc2
        have HXX := Lib.hid hxx
        have HYY := Lib.hid hyy
        clear hxx hyy
        by_cases he : x = y
        · subst he
          have s1 := str_eq x
          have s2 := str_neq_self x
          have HALL := Lib.hid (upto_succ hall.out (by rw [← HXX.out, ← HYY.out]))
          go_wp2_with fail
          go_quiet (fail)
          go_wp2
          go_roundg (xs.length - (k + 1))
          case measure => omega
          case rel => exact ⟨k + 1, by go_num, by omega, rfl, Lib.hid (pw_below_drewN hbw.out _), HALL⟩
        · have s1 := str_ne he
          have s2 := str_neq he
          have hres : eqB xs ys = false := eqB_false (fun e => he (by rw [HXX.out, HYY.out, e]))
          have HRES := Lib.hid hres
          clear hres he
          go_wp2_with fail
          go_quiet (fail)
          go_wp2
          go_ret
          exact ⟨ret_bool HRES.out.symm, pw_below_drewN hbw.out _⟩
      · obtain rfl : k = xs.length := by omega
        have hres : eqB xs ys = true := eqB_true (list_ext ByteArray.empty HL.out hall.out)
        have HRES := Lib.hid hres
        clear hres
        go_wp2
        go_ret
        exact ⟨ret_bool HRES.out.symm, hbw.out⟩
  · have t1 := len_ne hl
    have hres : eqB xs ys = false := eqB_false (fun e => hl (by rw [e]))
    have HRES := Lib.hid hres
    clear hres hl
    go_enter Tryd.func47, Tryd.ntmps47
    go_wp2
    go_ret
    exact ⟨ret_bool HRES.out.symm, Below.refl _ _⟩
set_option maxHeartbeats 1600000 in
theorem equalb_calls (xs ys : List Bool) (A B : Option Addr) (c d : Nat) (w : World) (hx : Kd.bool.C w A xs.length xs) (hy : Kd.bool.C w B ys.length ys) :
    Calls Tryd.prog 50 #[.slice A xs.length c, .slice B ys.length d] w fun e w' => e = .returned (.bool (eqB xs ys)) ∧ Below w.heap.size w w' := by
  have HX := Lib.hid hx
  have HY := Lib.hid hy
  have m1 := (C_len hx).2
  have m2 := (C_len hy).2
  clear hx hy
  by_cases hl : xs.length = ys.length
  · have t1 := len_eq hl
    have n1 : xs.length ≤ ys.length := by omega
    have n2 : ys.length ≤ xs.length := by omega
    have HL := Lib.hid hl
    clear hl
    go_enter Tryd.func50, Tryd.ntmps50
    go_wp2_with fail
    go_loopg [13] (xs.length) (fun g i wx => ∃ k : Nat, i = .int .i64 k ∧ k ≤ xs.length ∧ g = xs.length - k ∧ Hid (Below w.heap.size w wx) ∧ Hid (∀ j, j < k → xs.getD j false = ys.getD j false))
    case atStart => exact ⟨0, rfl, Nat.zero_le _, rfl, Lib.hid (Below.refl _ _), Lib.hid (fun j hj => absurd hj (by omega))⟩
    case round =>
      obtain ⟨k, rfl, hk, rfl, hbw, hall⟩ := hrel
      by_cases hlt : k < xs.length
      · obtain ⟨ad, rfl, hc⟩ := C_bool_get (Kd.C_below HX.out hbw.out) hlt
        obtain ⟨ad2, rfl, hc2⟩ := C_bool_get (Kd.C_below HY.out hbw.out) (show k < ys.length by omega)
        obtain ⟨x, hxx⟩ : ∃ x, x = xs.getD k false := ⟨_, rfl⟩
        obtain ⟨y, hyy⟩ : ∃ y, y = ys.getD k false := ⟨_, rfl⟩
        rw [← hxx] at hc
        rw [← hyy] at hc2
        have HXX := Lib.hid hxx
        have HYY := Lib.hid hyy
        clear hxx hyy
        by_cases he : x = y
        · subst he
          have s1 : (x == x) = true := by simp
          have s2 : (x != x) = false := by simp
          have HALL := Lib.hid (upto_succ hall.out (by rw [← HXX.out, ← HYY.out]))
          go_wp2_with fail
          go_quiet (fail)
          go_wp2
          go_roundg (xs.length - (k + 1))
          case measure => omega
          case rel => exact ⟨k + 1, by go_num, by omega, rfl, Lib.hid (pw_below_drewN hbw.out _), HALL⟩
        · have s1 : (x == y) = false := beq_eq_false_iff_ne.2 he
          have s2 : (x != y) = true := bne_iff_ne.2 he
          have hres : eqB xs ys = false := eqB_false (fun e => he (by rw [HXX.out, HYY.out, e]))
          have HRES := Lib.hid hres
          clear hres he
          go_wp2_with fail
          go_quiet (fail)
          go_wp2
          go_ret
          exact ⟨ret_bool HRES.out.symm, pw_below_drewN hbw.out _⟩
      · obtain rfl : k = xs.length := by omega
        have hres : eqB xs ys = true := eqB_true (list_ext false HL.out hall.out)
        have HRES := Lib.hid hres
        clear hres
        go_wp2
        go_ret
        exact ⟨ret_bool HRES.out.symm, hbw.out⟩
  · have t1 := len_ne hl
    have hres : eqB xs ys = false := eqB_false (fun e => hl (by rw [e]))
    have HRES := Lib.hid hres
    clear hres hl
    go_enter Tryd.func50, Tryd.ntmps50
    go_wp2
    go_ret
    exact ⟨ret_bool HRES.out.symm, Below.refl _ _⟩
set_option maxHeartbeats 400000 in
theorem same1_calls (xs ys : List Bool) (A B : Option Addr) (c d : Nat) (w : World) (hx : Kd.bool.C w A xs.length xs) (hy : Kd.bool.C w B ys.length ys) (t : Bool) (ht : eqB xs ys = t) :
    Calls Tryd.prog 49 #[.slice A xs.length c, .slice B ys.length d] w fun e w' => e = .returned (.bool t) ∧ Below w.heap.size w w' := by
  have h := equalb_calls xs ys A B c d w hx hy
  rw [ht] at h
  have H := Lib.hid h
  clear h hx hy ht
  go_enter Tryd.func49, Tryd.ntmps49
  go_wp2_with (go_at_call 50; refine H.out.mono ?_; rintro e w1 ⟨rfl, hb1⟩)
  go_ret
  exact ⟨rfl, hb1⟩
set_option maxHeartbeats 1600000 in
theorem equalf_calls (xs ys : List (List Bool)) (A B : Option Addr) (c d : Nat) (w : World) (hx : (Kd.slice 4 Kd.bool).C w A xs.length xs) (hy : (Kd.slice 4 Kd.bool).C w B ys.length ys) :
    Calls Tryd.prog 48 #[.slice A xs.length c, .slice B ys.length d, .func (.func 49) #[] #[]] w fun e w' => e = .returned (.bool (eqB xs ys)) ∧ Below w.heap.size w w' := by
  have HX := Lib.hid hx
  have HY := Lib.hid hy
  have m1 := (C_len hx).2
  have m2 := (C_len hy).2
  clear hx hy
  by_cases hl : xs.length = ys.length
  · have t1 := len_eq hl
    have n1 : xs.length ≤ ys.length := by omega
    have n2 : ys.length ≤ xs.length := by omega
    have HL := Lib.hid hl
    clear hl
    go_enter Tryd.func48, Tryd.ntmps48
    go_wp2_with fail
    go_loopg [17] (xs.length) (fun g i wx => ∃ k : Nat, i = .int .i64 k ∧ k ≤ xs.length ∧ g = xs.length - k ∧ Hid (Below w.heap.size w wx) ∧ Hid (∀ j, j < k → xs.getD j [] = ys.getD j []))
    case atStart => exact ⟨0, rfl, Nat.zero_le _, rfl, Lib.hid (Below.refl _ _), Lib.hid (fun j hj => absurd hj (by omega))⟩
    case round =>
      obtain ⟨k, rfl, hk, rfl, hbw, hall⟩ := hrel
      by_cases hlt : k < xs.length
      · obtain ⟨ad, A1, c1, rfl, hc, _, hC⟩ := C_slice_get (Kd.C_below HX.out hbw.out) hlt
        obtain ⟨ad2, A2, c2, rfl, hc2, _, hC2⟩ := C_slice_get (Kd.C_below HY.out hbw.out) (show k < ys.length by omega)
        obtain ⟨t, ht⟩ : ∃ t, eqB (xs.getD k []) (ys.getD k []) = t := ⟨_, rfl⟩
        have hcall := same1_calls _ _ A1 A2 c1 c2 wr hC hC2 t ht
        have HCALL := Lib.hid hcall
        have HT := Lib.hid ht
        clear hcall ht hC hC2
        generalize (xs.getD k []).length = lx at *
        generalize (ys.getD k []).length = ly at *
        cases t with
        | true =>
          have HALL := Lib.hid (upto_succ hall.out (of_eqB HT.out))
          go_wp2_with (go_at_call 49; refine HCALL.out.mono ?_; rintro e w1 ⟨rfl, hb1⟩)
          go_roundg (xs.length - (k + 1))
          case measure => omega
          case rel => exact ⟨k + 1, by go_num, by omega, rfl, Lib.hid (below_step hbw.out hb1), HALL⟩
        | false =>
          have hres : eqB xs ys = false := eqB_false (fun e => by have := HT.out; rw [e, eqB_true rfl] at this; cases this)
          have HRES := Lib.hid hres
          clear hres
          go_wp2_with (go_at_call 49; refine HCALL.out.mono ?_; rintro e w1 ⟨rfl, hb1⟩)
          go_ret
          exact ⟨ret_bool HRES.out.symm, below_step hbw.out hb1⟩
      · obtain rfl : k = xs.length := by omega
        have hres : eqB xs ys = true := eqB_true (list_ext [] HL.out hall.out)
        have HRES := Lib.hid hres
        clear hres
        go_wp2
        go_ret
        exact ⟨ret_bool HRES.out.symm, hbw.out⟩
  · have t1 := len_ne hl
    have hres : eqB xs ys = false := eqB_false (fun e => hl (by rw [e]))
    have HRES := Lib.hid hres
    clear hres hl
    go_enter Tryd.func48, Tryd.ntmps48
    go_wp2
    go_ret
    exact ⟨ret_bool HRES.out.symm, Below.refl _ _⟩
set_option maxHeartbeats 1600000 in
theorem same_calls (a b : Lat) (A B A2 B2 : Option Addr) (c d c2 d2 : Nat) (w : World) (ha : LR w a A c B d) (hb : LR w b A2 c2 B2 d2) :
    Calls Tryd.prog 23 #[.agg #[.slice A a.names.length c, .slice B a.order.length d], .agg #[.slice A2 b.names.length c2, .slice B2 b.order.length d2]] w fun e w' => e = .returned (.bool (eqB a b)) ∧ Below w.heap.size w w' := by
  have hF := boxed2 (n := a.names.length) (m := a.order.length) (n2 := b.names.length) (m2 := b.order.length) ha hb
  obtain ⟨c0, c1, c2', c3, hl1, hl2, hbw⟩ := hF _ (Below.refl _ _)
  obtain ⟨t, ht⟩ : ∃ t, t = eqB a.names b.names := ⟨_, rfl⟩
  obtain ⟨u, hu⟩ : ∃ t, t = eqB a.order b.order := ⟨_, rfl⟩
  have hk := equals_calls a.names b.names A A2 c c2 _ hl1.2.2.1 hl2.2.2.1
  rw [← ht] at hk
  have HK := Lib.hid hk
  have HF := Lib.hid hF
  have HBW := Lib.hid hbw
  have HT := Lib.hid ht
  have HU := Lib.hid hu
  clear hk hF hbw ht hu hl1 hl2 ha hb
  go_enter Tryd.func23, Tryd.ntmps23
  go_wp2_with fail
  refine HK.out.mono ?_
  rintro e w1 ⟨rfl, hb1⟩
  clear c0 c1 c2' c3
  obtain ⟨c0, c1, c2', c3, hl1, hl2, hbw⟩ := HF.out _ hb1
  have hk2 := equalf_calls a.order b.order B B2 d d2 _ hl1.2.2.2 hl2.2.2.2
  rw [← HU.out] at hk2
  have HK2 := Lib.hid hk2
  have HBW1 := Lib.hid hbw
  clear hk2 hl1 hl2 hbw
  cases t with
  | false =>
    have hres : eqB a b = false := eqB_false (fun e => by have := HT.out; rw [e, eqB_true rfl] at this; cases this)
    have HRES := Lib.hid hres
    clear hres
    go_wp2
    go_ret
    exact ⟨ret_bool HRES.out.symm, HBW1.out⟩
  | true =>
    have hres : eqB a b = u := by
      rw [HU.out]
      by_cases h : a.order = b.order
      · rw [eqB_true h, eqB_true (lat_ext (of_eqB HT.out.symm) h)]
      · rw [eqB_false h, eqB_false (fun e => h (by rw [e]))]
    have HRES := Lib.hid hres
    clear hres
    go_wp2_with (go_at_call 48; refine HK2.out.mono ?_; rintro e w2 ⟨rfl, hb2⟩)
    go_ret
    exact ⟨ret_bool HRES.out.symm, below_step HBW1.out hb2⟩
set_option maxRecDepth 100000 in
set_option maxHeartbeats 3200000 in
theorem refsame_calls (a b : Lat) (A B A2 B2 : Option Addr) (c d c2 d2 : Nat) (w : World) (ha : LR w a A c B d) (hb : LR w b A2 c2 B2 d2) :
    Calls Tryd.prog 17 #[.agg #[.slice A a.names.length c, .slice B a.order.length d], .agg #[.slice A2 b.names.length c2, .slice B2 b.order.length d2]] w fun e w' => e = .returned (.bool (eqB a b)) ∧ Below w.heap.size w w' := by
  have hF := boxed2 (n := a.names.length) (m := a.order.length) (n2 := b.names.length) (m2 := b.order.length) ha hb
  obtain ⟨c0, c1, c2', c3, hl1, hl2, hbw⟩ := hF _ (Below.refl _ _)
  have m1 := (C_len ha.2.2.1).2
  have m2 := (C_len hb.2.2.1).2
  have m3 := (C_len ha.2.2.2).2
  have m4 := (C_len hb.2.2.2).2
  have HF := Lib.hid hF
  have HBW := Lib.hid hbw
  clear hF hbw hl1 hl2 ha hb
  by_cases h1 : a.names.length = b.names.length
  · by_cases h2 : a.order.length = b.order.length
    · have t1 := len_eq h1
      have t2 := len_eq h2
      have n1 : a.names.length ≤ b.names.length := by omega
      have n2 : b.names.length ≤ a.names.length := by omega
      have n3 : a.order.length ≤ b.order.length := by omega
      have n4 : b.order.length ≤ a.order.length := by omega
      have HL1 := Lib.hid h1
      have HL2 := Lib.hid h2
      clear h1 h2
      obtain ⟨W0, hW0⟩ : ∃ W0, W0 = (w.alloc (.cells #[.slice A a.names.length c, .slice B a.order.length d] 25)).alloc (.cells #[.slice A2 b.names.length c2, .slice B2 b.order.length d2] 25) := ⟨_, rfl⟩
      rw [← hW0] at HF
      have HW0 : Hid (Below W0.heap.size W0 ((w.alloc (.cells #[.slice A a.names.length c, .slice B a.order.length d] 25)).alloc (.cells #[.slice A2 b.names.length c2, .slice B2 b.order.length d2] 25))) := Lib.hid (by rw [← hW0]; exact Below.refl _ _)
      clear hW0
      go_enter Tryd.func17, Tryd.ntmps17
      go_wp2_with fail
      clear c0 c1 c2' c3
      go_loopg [5] (a.names.length) (fun g i wx => ∃ k : Nat, i = .int .i64 k ∧ k ≤ a.names.length ∧ g = a.names.length - k ∧ Hid (Below W0.heap.size W0 wx) ∧ Hid (∀ j, j < k → a.names.getD j ByteArray.empty = b.names.getD j ByteArray.empty))
      case atStart => exact ⟨0, rfl, Nat.zero_le _, rfl, HW0, Lib.hid (fun j hj => absurd hj (by omega))⟩
      case round =>
        obtain ⟨k, rfl, hk, rfl, hbw, hall⟩ := hrel
        obtain ⟨c0, c1, c2', c3, hl1, hl2, hbw2⟩ := HF.out _ hbw.out
        have HBW2 := Lib.hid hbw2
        by_cases hlt : k < a.names.length
        · obtain ⟨ad, rfl, hc⟩ := C_str_get hl1.2.2.1 hlt
          obtain ⟨ad2, rfl, hc2⟩ := C_str_get hl2.2.2.1 (show k < b.names.length by omega)
          obtain ⟨x, hxx⟩ : ∃ x, x = a.names.getD k ByteArray.empty := ⟨_, rfl⟩
          obtain ⟨y, hyy⟩ : ∃ y, y = b.names.getD k ByteArray.empty := ⟨_, rfl⟩
          rw [← hxx] at hc
          rw [← hyy] at hc2
          have HXX := Lib.hid hxx
          have HYY := Lib.hid hyy
          clear hxx hyy hl1 hl2 hbw2
          by_cases he : x = y
          · subst he
            have s1 := str_eq x
            have s2 := str_neq_self x
            have HALL := Lib.hid (upto_succ hall.out (by rw [← HXX.out, ← HYY.out]))
            go_wp2_with fail
            go_quiet (fail)
            go_wp2
            go_roundg (a.names.length - (k + 1))
            case measure => omega
            case rel => exact ⟨k + 1, by go_num, by omega, rfl, Lib.hid (pw_below_drewN hbw.out _), HALL⟩
          · have s1 := str_ne he
            have s2 := str_neq he
            have hres : eqB a b = false := eqB_false (fun e => he (by rw [HXX.out, HYY.out, e]))
            have HRES := Lib.hid hres
            clear hres he
            go_wp2_with fail
            go_quiet (fail)
            go_wp2
            go_ret
            exact ⟨ret_bool HRES.out.symm, pw_below_drewN HBW2.out _⟩
        · obtain rfl : k = a.names.length := by omega
          have HN := Lib.hid (list_ext ByteArray.empty HL1.out hall.out)
          clear hl1 hl2 hbw2 hall
          go_wp2_with fail
          clear c0 c1 c2' c3
          go_loopg [6] (a.order.length) (fun g i wx => ∃ k : Nat, i = .int .i64 k ∧ k ≤ a.order.length ∧ g = a.order.length - k ∧ Hid (Below W0.heap.size W0 wx) ∧ Hid (∀ j, j < k → a.order.getD j [] = b.order.getD j []))
          case atStart => exact ⟨0, rfl, Nat.zero_le _, rfl, hbw, Lib.hid (fun j hj => absurd hj (by omega))⟩
          case round =>
            clear hbw HBW2
            obtain ⟨k, rfl, hk, rfl, hbw, hall⟩ := hrel
            obtain ⟨c0, c1, c2', c3, hl1, hl2, hbw2⟩ := HF.out _ hbw.out
            have HBW2 := Lib.hid hbw2
            by_cases hlt : k < a.order.length
            · obtain ⟨ad, A1, cx1, rfl, hc, hcc, hC⟩ := C_slice_get hl1.2.2.2 hlt
              obtain ⟨ad2, A3, cx2, rfl, hc2, hcc2, hC2⟩ := C_slice_get hl2.2.2.2 (show k < b.order.length by omega)
              have mr := (C_len hC).2
              have mr2 := (C_len hC2).2
              obtain ⟨lx, hlx⟩ : ∃ x, x = (a.order.getD k []).length := ⟨_, rfl⟩
              obtain ⟨ly, hly⟩ : ∃ x, x = (b.order.getD k []).length := ⟨_, rfl⟩
              rw [← hlx] at hc mr
              rw [← hly] at hc2 mr2
              have HLX := Lib.hid hlx
              have HLY := Lib.hid hly
              clear hl1 hl2 hbw2 hC hC2 hcc hcc2 hlx hly
              by_cases he : lx = ly
              · have s1 := len_eq he
                have n5 : lx ≤ ly := by omega
                have n6 : ly ≤ lx := by omega
                have HE := Lib.hid he
                clear he
                go_wp2_with fail
                go_quiet (fail)
                go_wp2_with fail
                have HB4 := Lib.hid (pw_below_drewN hbw.out nq)
                clear c0 c1 c2' c3 hc hc2
                go_loopg [7] (lx) (fun g i wx => ∃ m : Nat, i = .int .i64 m ∧ m ≤ lx ∧ g = lx - m ∧ Hid (Below W0.heap.size W0 wx) ∧ Hid (∀ j, j < m → (a.order.getD k []).getD j false = (b.order.getD k []).getD j false))
                case atStart => exact ⟨0, rfl, Nat.zero_le _, rfl, HB4, Lib.hid (fun j hj => absurd hj (by omega))⟩
                case round =>
                  obtain ⟨m, rfl, hm, rfl, hbw, hall2⟩ := hrel
                  obtain ⟨c0, c1, c2', c3, hl1, hl2, hbw2⟩ := HF.out _ hbw.out
                  have HBW2 := Lib.hid hbw2
                  obtain ⟨adx, A1, cx1, e1, hc, hcc, hC⟩ := C_slice_get hl1.2.2.2 hlt
                  injection e1 with e1
                  subst e1
                  obtain ⟨adx, A3, cx2, e1, hc2, hcc2, hC2⟩ := C_slice_get hl2.2.2.2 (show k < b.order.length by omega)
                  injection e1 with e1
                  subst e1
                  rw [← HLX.out] at hc
                  rw [← HLY.out] at hc2
                  by_cases hltm : m < lx
                  · obtain ⟨ad3, rfl, hd⟩ := C_bool_get hC (show m < _ by rw [← HLX.out]; exact hltm)
                    obtain ⟨ad4, rfl, hd2⟩ := C_bool_get hC2 (show m < _ by rw [← HLY.out]; omega)
                    obtain ⟨x, hxx⟩ : ∃ x, x = (a.order.getD k []).getD m false := ⟨_, rfl⟩
                    obtain ⟨y, hyy⟩ : ∃ y, y = (b.order.getD k []).getD m false := ⟨_, rfl⟩
                    rw [← hxx] at hd
                    rw [← hyy] at hd2
                    have HXX := Lib.hid hxx
                    have HYY := Lib.hid hyy
                    clear hxx hyy hl1 hl2 hbw2 hcc hcc2 hC hC2
                    by_cases he : x = y
                    · subst he
                      have s3 : (x == x) = true := by simp
                      have s2 : (x != x) = false := by simp
                      have HALL := Lib.hid (upto_succ hall2.out (by rw [← HXX.out, ← HYY.out]))
                      go_wp2_with fail
                      go_quiet (fail)
                      go_wp2
                      go_roundg (lx - (m + 1))
                      case measure => omega
                      case rel => exact ⟨m + 1, by go_num, by omega, rfl, Lib.hid (pw_below_drewN hbw.out _), HALL⟩
                    · have s3 : (x == y) = false := beq_eq_false_iff_ne.2 he
                      have s2 : (x != y) = true := bne_iff_ne.2 he
                      have hres : eqB a b = false := eqB_false (fun e => he (by rw [HXX.out, HYY.out, e]))
                      have HRES := Lib.hid hres
                      clear hres he
                      go_wp2_with fail
                      go_quiet (fail)
                      go_wp2
                      go_ret
                      exact ⟨ret_bool HRES.out.symm, pw_below_drewN HBW2.out _⟩
                  · obtain rfl : m = lx := by omega
                    have HALL := Lib.hid (upto_succ hall.out (list_ext false (by rw [← HLX.out, ← HLY.out]; exact HE.out) (by rw [← HLX.out]; exact hall2.out)))
                    clear hl1 hl2 hbw2 hcc hcc2 hC hC2
                    go_wp2
                    go_roundg (a.order.length - (k + 1))
                    case measure => omega
                    case rel => exact ⟨k + 1, by go_num, by omega, rfl, hbw, HALL⟩
              · have s1 := len_ne he
                have hres : eqB a b = false := eqB_false (fun e => he (by rw [HLX.out, HLY.out, e]))
                have HRES := Lib.hid hres
                clear hres he
                go_wp2_with fail
                go_quiet (fail)
                go_wp2
                go_ret
                exact ⟨ret_bool HRES.out.symm, pw_below_drewN HBW2.out _⟩
            · obtain rfl : k = a.order.length := by omega
              have hres : eqB a b = true := eqB_true (lat_ext HN.out (list_ext [] HL2.out hall.out))
              have HRES := Lib.hid hres
              clear hres hl1 hl2 hbw2
              go_wp2
              go_ret
              exact ⟨ret_bool HRES.out.symm, HBW2.out⟩
    · have t1 := len_eq h1
      have t2 := len_ne h2
      have hres : eqB a b = false := eqB_false (fun e => h2 (by rw [e]))
      have HRES := Lib.hid hres
      clear hres h1 h2
      go_enter Tryd.func17, Tryd.ntmps17
      go_wp2
      go_ret
      exact ⟨ret_bool HRES.out.symm, HBW.out⟩
  · have t1 := len_ne h1
    have hres : eqB a b = false := eqB_false (fun e => h1 (by rw [e]))
    have HRES := Lib.hid hres
    clear hres h1
    go_enter Tryd.func17, Tryd.ntmps17
    go_wp2
    go_ret
    exact ⟨ret_bool HRES.out.symm, HBW.out⟩
end Go.Proofs.YtokogcfcaehifaaDoor.SameW
