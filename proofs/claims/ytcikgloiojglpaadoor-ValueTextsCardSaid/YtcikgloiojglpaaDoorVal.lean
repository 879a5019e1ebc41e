/- Nodes, sound, Formed and Same of the program's package value and of the reference, each at every value. No condition. -/
import Derived.Test.YtcikgloiojglpaaDoorProg
import Derived.Deep.LoopGhost
import Derived.KernelRfl
import Derived.Outline
import Derived.Test.YtcikgloiojglpaaDoorValSpec
import Derived.Test.YtcikgloiojglpaaDoorAux
import Derived.Deep.QuietTactic
import Derived.BigQuiet
import Derived.BigRegion
namespace Go.Proofs.YtcikgloiojglpaaDoor.Val
set_option linter.unusedVariables false
set_option linter.unusedSimpArgs false
open Go.RowKit Go.Proofs.YtcikgloiojglpaaDoorW.PrintWords Go.Proofs.YtcikgloiojglpaaDoor.Aux Go.Proofs.YtcikgloiojglpaaDoor.Kinds Go.Proofs.YtcikgloiojglpaaDoor.ValSpec
theorem alloc_size (w : World) (o : Obj) : (w.alloc o).heap.size = w.heap.size + 1 := by simp
theorem upto_succ {P : Nat → Prop} {k : Nat} (h : ∀ j, j < k → P j) (hk : P k) : ∀ j, j < k + 1 → P j := fun j hj => by
  rcases Nat.lt_or_ge j k with h1 | h1
  · exact h j h1
  · obtain rfl : j = k := by omega
    exact hk
theorem len_ne {a b : Nat} (h : a ≠ b) : ((a : Int) != (b : Int)) = true := by rw [bne_iff_ne]; omega
theorem len_eq {a b : Nat} (h : a = b) : ((a : Int) != (b : Int)) = false := by simp [h]
open Classical in
/-- Are two things alike? -/
noncomputable def eqB {α : Type} (x y : α) : Bool := decide (x = y)
theorem eqB_true {α : Type} {x y : α} (h : x = y) : eqB x y = true := by simp [eqB, h]
theorem eqB_false {α : Type} {x y : α} (h : x ≠ y) : eqB x y = false := by simp [eqB, h]
theorem of_eqB {α : Type} {x y : α} (h : eqB x y = true) : x = y := by simpa [eqB] using h
theorem list_ext {α : Type} {xs ys : List α} (z : α) (hl : xs.length = ys.length) (h : ∀ i, i < xs.length → xs.getD i z = ys.getD i z) : xs = ys :=
  List.ext_getElem hl (fun i h1 h2 => by
    have := h i h1
    rwa [List.getD_eq_getElem?_getD, List.getD_eq_getElem?_getD, List.getElem?_eq_getElem h1, List.getElem?_eq_getElem h2] at this)
/-- Values in a row. -/
abbrev kV : Kd V := k24
/-- A value's parts are read. -/
def VR (w : World) (v : V) (A : Option Addr) (c : Nat) : Prop := v.f2.length ≤ c ∧ kV.C w A v.f2.length v.f2
theorem VR.below {w w1 : World} {v : V} {A : Option Addr} {c : Nat} (h : VR w v A c) (hb : Below w.heap.size w w1) : VR w1 v A c := ⟨h.1, Kd.C_below h.2 hb⟩
/-- The three cells of element i. -/
theorem el {w : World} {A : Option Addr} {n : Nat} {ps : List V} (h : kV.C w A n ps) {i : Nat} (hi : i < n) :
    ∃ ad A' c', A = some ad ∧ w.cell? (ad.add (i * 3)) = some (.int .i64 (ps.getD i zV).f0) ∧ w.cell? ⟨(ad.add (i * 3)).block, (ad.add (i * 3)).off + 1, none⟩ = some (.int .i64 (ps.getD i zV).f1) ∧ w.cell? ⟨(ad.add (i * 3)).block, (ad.add (i * 3)).off + 2, none⟩ = some (.slice A' (ps.getD i zV).f2.length c') ∧ VR w (ps.getD i zV) A' c' := by
  obtain ⟨ad, A2, c2, e, h0, h1, h2, h3, h4⟩ := at_T24 h (i : Int) (by omega) (by omega)
  rw [Int.toNat_natCast] at h0 h1 h2
  exact ⟨ad, A2, c2, e, h0, h1, h2, h3, h4⟩
/-- A value in its box. -/
theorem boxV {w : World} {v : V} {A : Option Addr} {c : Nat} (h : VR w v A c) : ∀ W, Below (w.alloc (.cells #[.int .i64 v.f0, .int .i64 v.f1, .slice A v.f2.length c] 24)).heap.size (w.alloc (.cells #[.int .i64 v.f0, .int .i64 v.f1, .slice A v.f2.length c] 24)) W → W.cell? ⟨w.heap.size, 0, none⟩ = some (.int .i64 v.f0) ∧ W.cell? ⟨w.heap.size, 1, none⟩ = some (.int .i64 v.f1) ∧ W.cell? ⟨w.heap.size, 2, none⟩ = some (.slice A v.f2.length c) ∧ VR W v A c ∧ Below w.heap.size w W := fun W hW => by
  have hb1 := below_alloc (Below.refl w.heap.size w) (.cells #[.int .i64 v.f0, .int .i64 v.f1, .slice A v.f2.length c] 24)
  have bk := blk_below (blk_new w _) hW
  exact ⟨(blk_cell bk 0).trans rfl, (blk_cell bk 1).trans rfl, (blk_cell bk 2).trans rfl, h.below (below_step hb1 hW), below_step hb1 hW⟩
set_option maxRecDepth 100000 in
set_option maxHeartbeats 1600000 in
theorem nodes_k : ∀ (k : Nat) (v : V) (A : Option Addr) (c : Nat) (w : World), size v ≤ k → VR w v A c →
    Calls Tryd.prog 13 #[.agg #[.int .i64 v.f0, .int .i64 v.f1, .slice A v.f2.length c]] w fun e w' => e = .returned (.int .i64 (nodesN v)) ∧ Below w.heap.size w w' := by
  intro k
  induction k with
  | zero => intro v A c w hk; have := size_pos v; omega
  | succ k ih =>
    intro v A c w hk h
    have hF := boxV h
    obtain ⟨c0, c1, c2, _, _⟩ := hF _ (Below.refl _ _)
    have IH := Lib.hid ih
    have HK := Lib.hid hk
    have HF := Lib.hid hF
    have HB0 := Lib.hid (Below.refl (w.alloc (.cells #[.int .i64 v.f0, .int .i64 v.f1, .slice A v.f2.length c] 24)).heap.size (w.alloc (.cells #[.int .i64 v.f0, .int .i64 v.f1, .slice A v.f2.length c] 24)))
    have hm := (C_len h.2).2
    obtain ⟨n, hn⟩ : ∃ n, n = v.f2.length := ⟨_, rfl⟩
    clear ih hk hF h
    go_enter Tryd.func13, Tryd.ntmps13
    go_wp2_with fail
    clear c0 c1 c2 hn n
    go_loopg [3, 9] (v.f2.length) (fun g x i wx => ∃ (j m : Nat), i = .int .i64 j ∧ j ≤ v.f2.length ∧ g = v.f2.length - j ∧ x = .int .i64 m ∧ m ≤ 2000 ∧ Hid (m = 1 + sizes (v.f2.take j)) ∧ Hid (Below (w.alloc (.cells #[.int .i64 v.f0, .int .i64 v.f1, .slice A v.f2.length c] 24)).heap.size (w.alloc (.cells #[.int .i64 v.f0, .int .i64 v.f1, .slice A v.f2.length c] 24)) wx))
    case atStart => exact ⟨0, 1, rfl, Nat.zero_le _, rfl, rfl, by omega, Lib.hid (by simp [sizes]), HB0⟩
    case round =>
      obtain ⟨j, m, rfl, hj, rfl, rfl, hm2, hmE, hbr⟩ := hrel
      obtain ⟨c0, c1, c2, hv, hbw⟩ := HF.out _ hbr.out
      have HBW := Lib.hid hbw
      by_cases hlt : j < v.f2.length
      · obtain ⟨ad, A', c', hA, e0, e1, e2, hp⟩ := el hv.2 hlt
        subst hA
        have hsz := size_part (getD_mem hlt)
        have HST := Lib.hid (sizes_take hlt)
        have HTL := Lib.hid (sizes_take_le v.f2 (j + 1))
        generalize v.f2.getD j zV = p at e0 e1 e2 hp hsz HST
        have hb1 := below_alloc (Below.refl wr.heap.size wr) (.cells #[.int .i64 p.f0, .int .i64 p.f1, .slice A' p.f2.length c'] 24)
        have hcall := IH.out p A' c' _ (by have := HK.out; omega) (hp.below hb1)
        have HCALL := Lib.hid hcall
        have HB1 := Lib.hid hb1
        clear hcall hb1 hp hbw hv hsz
        go_wp2_with fail
        refine HCALL.out.mono ?_
        rintro e w1 ⟨rfl, hb2⟩
        have HB2 := Lib.hid (below_step hbr.out (below_step HB1.out hb2))
        have HBX := Lib.hid (below_step HBW.out (below_step HB1.out hb2))
        have hq1 : nodesN p ≤ 2001 := by unfold nodesN; omega
        have HQ := Lib.hid (show nodesN p = min (size p) 2001 from rfl)
        generalize nodesN p = q at hq1 HQ
        clear hb2 c0 c1 c2 e0 e1 e2
        by_cases hbig : 2000 < m + q
        · have HRES := Lib.hid (show nodesN v = 2001 by
            have h1 := HST.out; have h2 := HTL.out; have h3 := hmE.out; have h4 := HQ.out
            unfold nodesN
            rw [size_eq]
            omega)
          go_wp2
          go_ret
          exact ⟨ret_int (by rw [HRES.out]; rfl), HBX.out⟩
        · have HN := Lib.hid (show m + q = 1 + sizes (v.f2.take (j + 1)) by
            have h1 := HST.out; have h3 := hmE.out; have h4 := HQ.out
            omega)
          go_wp2
          go_roundg (v.f2.length - (j + 1))
          case measure => omega
          case rel => exact ⟨j + 1, m + q, by go_num, by omega, rfl, by go_num, by omega, HN, HB2⟩
      · obtain rfl : j = v.f2.length := by omega
        have HRES := Lib.hid (show nodesN v = m by
          have h3 := hmE.out
          rw [List.take_length] at h3
          unfold nodesN
          rw [size_eq]
          omega)
        clear hbw hv
        go_wp2
        go_ret
        exact ⟨ret_int (by rw [HRES.out]), HBW.out⟩
theorem nodes_calls (v : V) (A : Option Addr) (c : Nat) (w : World) (h : VR w v A c) :
    Calls Tryd.prog 13 #[.agg #[.int .i64 v.f0, .int .i64 v.f1, .slice A v.f2.length c]] w fun e w' => e = .returned (.int .i64 (nodesN v)) ∧ Below w.heap.size w w' := nodes_k (size v) v A c w (Nat.le_refl _) h
set_option maxRecDepth 100000 in
set_option maxHeartbeats 1600000 in
theorem refnodes_k : ∀ (k : Nat) (v : V) (A : Option Addr) (c : Nat) (w : World), size v ≤ k → VR w v A c →
    Calls Tryd.prog 14 #[.agg #[.int .i64 v.f0, .int .i64 v.f1, .slice A v.f2.length c]] w fun e w' => e = .returned (.int .i64 (nodesN v)) ∧ Below w.heap.size w w' := by
  intro k
  induction k with
  | zero => intro v A c w hk; have := size_pos v; omega
  | succ k ih =>
    intro v A c w hk h
    have hF := boxV h
    obtain ⟨c0, c1, c2, _, _⟩ := hF _ (Below.refl _ _)
    have IH := Lib.hid ih
    have HK := Lib.hid hk
    have HF := Lib.hid hF
    have HB0 := Lib.hid (Below.refl (w.alloc (.cells #[.int .i64 v.f0, .int .i64 v.f1, .slice A v.f2.length c] 24)).heap.size (w.alloc (.cells #[.int .i64 v.f0, .int .i64 v.f1, .slice A v.f2.length c] 24)))
    have hm := (C_len h.2).2
    clear ih hk hF h
    go_enter Tryd.func14, Tryd.ntmps14
    go_wp2_with fail
    clear c0 c1 c2
    go_loopg [3, 4] (v.f2.length) (fun g x i wx => ∃ (j m : Nat), i = .int .i64 j ∧ j ≤ v.f2.length ∧ g = v.f2.length - j ∧ x = .int .i64 m ∧ m ≤ 4001 ∧ Hid (min m 2001 = min (1 + sizes (v.f2.take j)) 2001) ∧ Hid (Below (w.alloc (.cells #[.int .i64 v.f0, .int .i64 v.f1, .slice A v.f2.length c] 24)).heap.size (w.alloc (.cells #[.int .i64 v.f0, .int .i64 v.f1, .slice A v.f2.length c] 24)) wx))
    case atStart => exact ⟨0, 1, rfl, Nat.zero_le _, rfl, rfl, by omega, Lib.hid (by simp [sizes]), HB0⟩
    case round =>
      obtain ⟨j, m, rfl, hj, rfl, rfl, hm2, hmE, hbr⟩ := hrel
      obtain ⟨c0, c1, c2, hv, hbw⟩ := HF.out _ hbr.out
      have HBW := Lib.hid hbw
      have HTL := Lib.hid (sizes_take_le v.f2 j)
      by_cases hlt : j < v.f2.length
      · by_cases hbig : 2000 < m
        · have HRES := Lib.hid (show nodesN v = 2001 by
            have h2 := HTL.out; have h3 := hmE.out
            unfold nodesN
            rw [size_eq]
            omega)
          clear hbw hv
          go_wp2
          all_goals
            go_ret
            exact ⟨ret_int (by rw [HRES.out]; omega), HBW.out⟩
        · obtain ⟨ad, A', c', hA, e0, e1, e2, hp⟩ := el hv.2 hlt
          subst hA
          have hsz := size_part (getD_mem hlt)
          have HST := Lib.hid (sizes_take hlt)
          generalize v.f2.getD j zV = p at e0 e1 e2 hp hsz HST
          have hcall := IH.out p A' c' _ (by have := HK.out; omega) hp
          have HCALL := Lib.hid hcall
          clear hcall hp hbw hv hsz
          go_wp2_with fail
          refine HCALL.out.mono ?_
          rintro e w1 ⟨rfl, hb2⟩
          have HB2 := Lib.hid (below_step hbr.out hb2)
          have hq1 : nodesN p ≤ 2001 := by unfold nodesN; omega
          have HQ := Lib.hid (show nodesN p = min (size p) 2001 from rfl)
          generalize nodesN p = q at hq1 HQ
          clear hb2 c0 c1 c2 e0 e1 e2
          have HN := Lib.hid (show min (m + q) 2001 = min (1 + sizes (v.f2.take (j + 1))) 2001 by
            have h1 := HST.out; have h3 := hmE.out; have h4 := HQ.out
            omega)
          go_wp2
          go_roundg (v.f2.length - (j + 1))
          case measure => omega
          case rel => exact ⟨j + 1, m + q, by go_num, by omega, rfl, by go_num, by omega, HN, HB2⟩
      · obtain rfl : j = v.f2.length := by omega
        have HRES := Lib.hid (show nodesN v = min m 2001 by
          have h3 := hmE.out
          rw [List.take_length] at h3
          unfold nodesN
          rw [size_eq]
          omega)
        clear hbw hv
        go_wp2
        all_goals
          go_ret
          exact ⟨ret_int (by rw [HRES.out]; omega), HBW.out⟩
theorem refnodes_calls (v : V) (A : Option Addr) (c : Nat) (w : World) (h : VR w v A c) :
    Calls Tryd.prog 14 #[.agg #[.int .i64 v.f0, .int .i64 v.f1, .slice A v.f2.length c]] w fun e w' => e = .returned (.int .i64 (nodesN v)) ∧ Below w.heap.size w w' := refnodes_k (size v) v A c w (Nat.le_refl _) h
end Go.Proofs.YtcikgloiojglpaaDoor.Val
