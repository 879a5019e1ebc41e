/- sound and Formed of the reference, each at every value. No condition. -/
import Derived.Test.YtcikgloiojglpaaDoorVal2
namespace Go.Proofs.YtcikgloiojglpaaDoor.Val
set_option linter.unusedVariables false
set_option linter.unusedSimpArgs false
open Go.RowKit Go.Proofs.YtcikgloiojglpaaDoorW.PrintWords Go.Proofs.YtcikgloiojglpaaDoor.Aux Go.Proofs.YtcikgloiojglpaaDoor.Kinds Go.Proofs.YtcikgloiojglpaaDoor.ValSpec
/-- The cells of a part, by its place. -/
theorem el01 {w : World} {A : Option Addr} {n : Nat} {ps : List V} (h : kV.C w A n ps) (hn : n = 2) :
    ∃ ad A0 c0 A1 c1, A = some ad ∧ (w.cell? ad = some (.int .i64 (ps.getD 0 zV).f0) ∧ w.cell? ⟨ad.block, ad.off + 1, none⟩ = some (.int .i64 (ps.getD 0 zV).f1) ∧ w.cell? ⟨ad.block, ad.off + 2, none⟩ = some (.slice A0 (ps.getD 0 zV).f2.length c0) ∧ VR w (ps.getD 0 zV) A0 c0) ∧ (w.cell? ⟨ad.block, ad.off + 3, none⟩ = some (.int .i64 (ps.getD 1 zV).f0) ∧ w.cell? ⟨ad.block, ad.off + 3 + 1, none⟩ = some (.int .i64 (ps.getD 1 zV).f1) ∧ w.cell? ⟨ad.block, ad.off + 3 + 2, none⟩ = some (.slice A1 (ps.getD 1 zV).f2.length c1) ∧ VR w (ps.getD 1 zV) A1 c1) := by
  obtain ⟨ad, A0, c0, e, h0⟩ := el h (i := 0) (by omega)
  obtain ⟨ad2, A1, c1, e2, h1⟩ := el h (i := 1) (by omega)
  rw [e] at e2
  injection e2 with e2
  subst e2
  rw [show ad.add (0 * 3) = ad from by simp [Addr.add]] at h0
  rw [show ad.add (1 * 3) = ⟨ad.block, ad.off + 3, none⟩ from by simp [Addr.add]] at h1
  exact ⟨ad, A0, c0, A1, c1, e, h0, h1⟩
theorem sounds_two {ps : List V} (h : ps.length = 2) : sounds ps = (sound (ps.getD 0 zV) && sound (ps.getD 1 zV)) := by
  match ps, h with
  | [a, b], _ => simp [sounds]
set_option maxRecDepth 100000 in
set_option maxHeartbeats 3200000 in
theorem refsound_core (kk nn : Int) (ps : List V) (A : Option Addr) (c : Nat) (w : World) (hr0 : -9223372036854775808 ≤ nn) (hr1 : nn ≤ 9223372036854775807) (h : ps.length ≤ c) (hC : kV.C w A ps.length ps) (hI : Snd 19 ps) :
    Calls Tryd.prog 19 #[.agg #[.int .i64 kk, .int .i64 nn, .slice A ps.length c]] w fun e w' => e = .returned (.bool (headB kk nn ps.length && sounds ps)) ∧ Below w.heap.size w w' := by
  have hb1 := below_alloc (Below.refl w.heap.size w) (.cells #[.int .i64 kk, .int .i64 nn, .slice A ps.length c] 24)
  have HBW := Lib.hid hb1
  have hF : ∀ W, Below (w.alloc (.cells #[.int .i64 kk, .int .i64 nn, .slice A ps.length c] 24)).heap.size (w.alloc (.cells #[.int .i64 kk, .int .i64 nn, .slice A ps.length c] 24)) W → W.cell? ⟨w.heap.size, 0, none⟩ = some (.int .i64 kk) ∧ W.cell? ⟨w.heap.size, 1, none⟩ = some (.int .i64 nn) ∧ W.cell? ⟨w.heap.size, 2, none⟩ = some (.slice A ps.length c) ∧ kV.C W A ps.length ps ∧ Below w.heap.size w W := fun W hW => by
    have bk := blk_below (blk_new w _) hW
    exact ⟨(blk_cell bk 0).trans rfl, (blk_cell bk 1).trans rfl, (blk_cell bk 2).trans rfl, Kd.C_below hC (below_step hb1 hW), below_step hb1 hW⟩
  obtain ⟨c0, c1, c2, _, _⟩ := hF _ (Below.refl _ _)
  have HB0 := Lib.hid (Below.refl (w.alloc (.cells #[.int .i64 kk, .int .i64 nn, .slice A ps.length c] 24)).heap.size (w.alloc (.cells #[.int .i64 kk, .int .i64 nn, .slice A ps.length c] 24)))
  have HF := Lib.hid hF
  have HI := Lib.hid hI
  have hm := (C_len hC).2
  clear hb1 hC hI h hF
  obtain ⟨s, hs⟩ : ∃ s, s = sounds ps := ⟨_, rfl⟩
  rw [← hs]
  have HS := Lib.hid hs
  clear hs
  by_cases k1 : kk = 1
  · subst k1
    by_cases hl : ps.length = 0
    · obtain rfl : s = true := by rw [HS.out, List.eq_nil_of_length_eq_zero hl]; rfl
      have HRES := Lib.hid (show (headB 1 nn ps.length && true) = true by simp [headB, hl])
      have e0 : ((ps.length : Int) == 0) = true := by rw [beq_iff_eq]; omega
      clear hl
      go_enter Tryd.func19, Tryd.ntmps19
      go_wp2
      go_ret
      exact ⟨ret_bool (by first | exact HRES.out.symm | (have hh := HRES.out; simpa using hh.symm)), HBW.out⟩
    · have HRES := Lib.hid (show (headB 1 nn ps.length && s) = false by simp [headB, hl])
      have e0 : ((ps.length : Int) == 0) = false := by rw [beq_eq_false_iff_ne]; omega
      clear hl
      go_enter Tryd.func19, Tryd.ntmps19
      go_wp2
      go_ret
      exact ⟨ret_bool (by first | exact HRES.out.symm | (have hh := HRES.out; simpa using hh.symm)), HBW.out⟩
  by_cases k2 : kk = 2
  · subst k2
    by_cases hl : ps.length = 0
    · obtain rfl : s = true := by rw [HS.out, List.eq_nil_of_length_eq_zero hl]; rfl
      by_cases hn : nn = 0
      · have HRES := Lib.hid (show (headB 2 nn ps.length && true) = true by simp [headB, hl, hn])
        have e0 : ((ps.length : Int) == 0) = true := by rw [beq_iff_eq]; omega
        have e1 : (nn == 0) = true := by rw [beq_iff_eq]; omega
        clear hl hn
        go_enter Tryd.func19, Tryd.ntmps19
        go_wp2
        go_ret
        exact ⟨ret_bool (by first | exact HRES.out.symm | (have hh := HRES.out; simpa using hh.symm)), HBW.out⟩
      · by_cases hq : nn = 1
        · have HRES := Lib.hid (show (headB 2 nn ps.length && true) = true by simp [headB, hl, hn, hq])
          have e0 : ((ps.length : Int) == 0) = true := by rw [beq_iff_eq]; omega
          have e1 : (nn == 0) = false := by rw [beq_eq_false_iff_ne]; omega
          have e2 : (nn == 1) = true := by rw [beq_iff_eq]; omega
          clear hl hn hq
          go_enter Tryd.func19, Tryd.ntmps19
          go_wp2
          go_ret
          exact ⟨ret_bool (by first | exact HRES.out.symm | (have hh := HRES.out; simpa using hh.symm)), HBW.out⟩
        · have HRES := Lib.hid (show (headB 2 nn ps.length && true) = false by simp [headB, hl, hn, hq])
          have e0 : ((ps.length : Int) == 0) = true := by rw [beq_iff_eq]; omega
          have e1 : (nn == 0) = false := by rw [beq_eq_false_iff_ne]; omega
          have e2 : (nn == 1) = false := by rw [beq_eq_false_iff_ne]; omega
          clear hl hn hq
          go_enter Tryd.func19, Tryd.ntmps19
          go_wp2
          go_ret
          exact ⟨ret_bool (by first | exact HRES.out.symm | (have hh := HRES.out; simpa using hh.symm)), HBW.out⟩
    · have HRES := Lib.hid (show (headB 2 nn ps.length && s) = false by simp [headB, hl])
      have e0 : ((ps.length : Int) == 0) = false := by rw [beq_eq_false_iff_ne]; omega
      clear hl
      go_enter Tryd.func19, Tryd.ntmps19
      go_wp2
      go_ret
      exact ⟨ret_bool (by first | exact HRES.out.symm | (have hh := HRES.out; simpa using hh.symm)), HBW.out⟩
  by_cases k3 : kk = 3
  · subst k3
    by_cases hl : ps.length = 2
    · by_cases hn : nn = 0
      · have HH := Lib.hid (show headB 3 nn ps.length = true by simp [headB, hl, hn])
        obtain ⟨_, _, _, hp, _⟩ := HF.out _ HB0.out
        obtain ⟨ad, A0, cc0, A1, cc1, hA, ⟨e00, e01, e02, hp0⟩, ⟨e10, e11, e12, hp1⟩⟩ := el01 hp hl
        subst hA
        have HS2 := Lib.hid (show s = (sound (ps.getD 0 zV) && sound (ps.getD 1 zV)) by rw [HS.out, sounds_two hl])
        have HC0 := Lib.hid (HI.out _ (getD_mem (show 0 < ps.length by omega)) A0 cc0 _ hp0)
        have HI1 := Lib.hid (HI.out _ (getD_mem (show 1 < ps.length by omega)))
        have HC1' := Lib.hid (fun W (hW : Below (w.alloc (.cells #[.int .i64 3, .int .i64 nn, .slice (some ad) ps.length c] 24)).heap.size (w.alloc (.cells #[.int .i64 3, .int .i64 nn, .slice (some ad) ps.length c] 24)) W) => HI1.out A1 cc1 W (hp1.below hW))
        have E1 := Lib.hid (fun W (hW : Below (w.alloc (.cells #[.int .i64 3, .int .i64 nn, .slice (some ad) ps.length c] 24)).heap.size (w.alloc (.cells #[.int .i64 3, .int .i64 nn, .slice (some ad) ps.length c] 24)) W) => (⟨pw_cell_below hW e10, pw_cell_below hW e11, pw_cell_below hW e12⟩ : W.cell? ⟨ad.block, ad.off + 3, none⟩ = some (.int .i64 (ps.getD 1 zV).f0) ∧ W.cell? ⟨ad.block, ad.off + 3 + 1, none⟩ = some (.int .i64 (ps.getD 1 zV).f1) ∧ W.cell? ⟨ad.block, ad.off + 3 + 2, none⟩ = some (.slice A1 (ps.getD 1 zV).f2.length cc1)))
        clear hp hp0 hp1 e10 e11 e12
        generalize (ps.getD 0 zV).f0 = x0 at *
        generalize (ps.getD 0 zV).f1 = x1 at *
        generalize (ps.getD 0 zV).f2.length = x2 at *
        generalize (ps.getD 1 zV).f0 = y0 at *
        generalize (ps.getD 1 zV).f1 = y1 at *
        generalize (ps.getD 1 zV).f2.length = y2 at *
        have e0 : ((ps.length : Int) == 2) = true := by rw [beq_iff_eq]; omega
        have n0 : 2 ≤ ps.length := by omega
        have e1 : (nn == 0) = true := by rw [beq_iff_eq]; omega
        obtain ⟨b0, hb0⟩ : ∃ b, sound (ps.getD 0 zV) = b := ⟨_, rfl⟩
        obtain ⟨b1, hb1⟩ : ∃ b, sound (ps.getD 1 zV) = b := ⟨_, rfl⟩
        rw [hb0] at HC0 HS2
        rw [hb1] at HC1' HS2
        clear hl hn hb0 hb1 HI1
        go_enter Tryd.func19, Tryd.ntmps19
        go_wp2_with fail
        refine HC0.out.mono ?_
        rintro e w1 ⟨rfl, hb1⟩
        clear c0 c1 c2 e00 e01 e02
        obtain ⟨c0, c1, c2, _, hbw⟩ := HF.out _ hb1
        obtain ⟨e10, e11, e12⟩ := E1.out _ hb1
        have HC1 := Lib.hid (HC1'.out _ hb1)
        have HBW1 := Lib.hid hbw
        clear hb1 hbw
        cases b0 with
        | false =>
          go_wp2
          go_ret
          exact ⟨ret_bool (by rw [HH.out, HS2.out]; rfl), HBW1.out⟩
        | true =>
          go_wp2_with fail
          refine HC1.out.mono ?_
          rintro e w2 ⟨rfl, hb2⟩
          go_wp2
          go_ret
          exact ⟨ret_bool (by rw [HH.out, HS2.out]; rfl), below_step HBW1.out hb2⟩
      · have HRES := Lib.hid (show (headB 3 nn ps.length && s) = false by simp [headB, hl, hn])
        have e0 : ((ps.length : Int) == 2) = true := by rw [beq_iff_eq]; omega
        have e1 : (nn == 0) = false := by rw [beq_eq_false_iff_ne]; omega
        clear hl hn
        go_enter Tryd.func19, Tryd.ntmps19
        go_wp2
        go_ret
        exact ⟨ret_bool (by first | exact HRES.out.symm | (have hh := HRES.out; simpa using hh.symm)), HBW.out⟩
    · have HRES := Lib.hid (show (headB 3 nn ps.length && s) = false by simp [headB, hl])
      have e0 : ((ps.length : Int) == 2) = false := by rw [beq_eq_false_iff_ne]; omega
      clear hl
      go_enter Tryd.func19, Tryd.ntmps19
      go_wp2
      go_ret
      exact ⟨ret_bool (by first | exact HRES.out.symm | (have hh := HRES.out; simpa using hh.symm)), HBW.out⟩
  by_cases k4 : kk = 4
  · subst k4
    obtain ⟨hd, hhd⟩ : ∃ b, b = headB 4 nn ps.length := ⟨_, rfl⟩
    have HH := Lib.hid hhd
    clear hhd
    rw [← HH.out]
    go_enter Tryd.func19, Tryd.ntmps19
    go_wp2_with fail
    clear c0 c1 c2
    go_loopg [4] (ps.length) (fun g i wx => ∃ j : Nat, i = .int .i64 j ∧ j ≤ ps.length ∧ g = ps.length - j ∧ Hid (Below (w.alloc (.cells #[.int .i64 4, .int .i64 nn, .slice A ps.length c] 24)).heap.size (w.alloc (.cells #[.int .i64 4, .int .i64 nn, .slice A ps.length c] 24)) wx) ∧ Hid (∀ m, m < j → sound (ps.getD m zV) = true))
    case atStart => exact ⟨0, rfl, Nat.zero_le _, rfl, HB0, Lib.hid (fun m hm => absurd hm (by omega))⟩
    case round =>
      obtain ⟨j, rfl, hj, rfl, hbr, hall⟩ := hrel
      obtain ⟨c0, c1, c2, hp, hbw⟩ := HF.out _ hbr.out
      have HBW2 := Lib.hid hbw
      by_cases hlt : j < ps.length
      · obtain ⟨ad, A', c', hA, e0, e1, e2, hq⟩ := el hp hlt
        subst hA
        have hcall := HI.out _ (getD_mem hlt) A' c' _ hq
        obtain ⟨t, ht⟩ : ∃ t, sound (ps.getD j zV) = t := ⟨_, rfl⟩
        rw [ht] at hcall
        have HCALL := Lib.hid hcall
        have HT := Lib.hid ht
        clear hcall ht hq hp hbw
        generalize (ps.getD j zV).f0 = x0 at *
        generalize (ps.getD j zV).f1 = x1 at *
        generalize (ps.getD j zV).f2.length = x2 at *
        cases t with
        | true =>
          have HALL := Lib.hid (upto_succ hall.out HT.out)
          go_wp2_with (go_at_call 19; refine HCALL.out.mono ?_; rintro e w1 ⟨rfl, hb1⟩)
          go_roundg (ps.length - (j + 1))
          case measure => omega
          case rel => exact ⟨j + 1, by go_num, by omega, rfl, Lib.hid (below_step hbr.out hb1), HALL⟩
        | false =>
          have HRES := Lib.hid (show s = false by rw [HS.out]; exact sounds_at hlt HT.out)
          go_wp2_with (go_at_call 19; refine HCALL.out.mono ?_; rintro e w1 ⟨rfl, hb1⟩)
          go_ret
          exact ⟨ret_bool (by rw [HRES.out, Bool.and_false]), below_step HBW2.out hb1⟩
      · obtain rfl : j = ps.length := by omega
        have HRES := Lib.hid (show s = true by rw [HS.out]; exact sounds_all hall.out)
        clear hp hbw
        by_cases h0 : 0 ≤ nn
        · by_cases h1 : nn < 60
          · go_wp2
            go_ret
            exact ⟨ret_bool (by rw [HRES.out, HH.out]; simp [headB]; omega), HBW2.out⟩
          · go_wp2
            go_ret
            exact ⟨ret_bool (by rw [HRES.out, HH.out]; simp [headB]; omega), HBW2.out⟩
        · go_wp2
          go_ret
          exact ⟨ret_bool (by rw [HRES.out, HH.out]; simp [headB]; omega), HBW2.out⟩
  by_cases k5 : kk = 5
  · subst k5
    by_cases hl : ps.length = 0
    · obtain rfl : s = true := by rw [HS.out, List.eq_nil_of_length_eq_zero hl]; rfl
      by_cases hn : 0 ≤ nn
      · by_cases hq : nn ≤ 2147483647
        · have HRES := Lib.hid (show (headB 5 nn ps.length && true) = true by simp [headB, hl, hn, hq])
          have e0 : ((ps.length : Int) == 0) = true := by rw [beq_iff_eq]; omega
          clear hl
          go_enter Tryd.func19, Tryd.ntmps19
          go_wp2
          go_ret
          exact ⟨ret_bool (by first | exact HRES.out.symm | (have hh := HRES.out; simpa using hh.symm)), HBW.out⟩
        · have HRES := Lib.hid (show (headB 5 nn ps.length && true) = false by simp [headB, hl, hn, hq])
          have e0 : ((ps.length : Int) == 0) = true := by rw [beq_iff_eq]; omega
          clear hl
          go_enter Tryd.func19, Tryd.ntmps19
          go_wp2
          go_ret
          exact ⟨ret_bool (by first | exact HRES.out.symm | (have hh := HRES.out; simpa using hh.symm)), HBW.out⟩
      · have HRES := Lib.hid (show (headB 5 nn ps.length && true) = false by simp [headB, hl, hn])
        have e0 : ((ps.length : Int) == 0) = true := by rw [beq_iff_eq]; omega
        clear hl
        go_enter Tryd.func19, Tryd.ntmps19
        go_wp2
        go_ret
        exact ⟨ret_bool (by first | exact HRES.out.symm | (have hh := HRES.out; simpa using hh.symm)), HBW.out⟩
    · have HRES := Lib.hid (show (headB 5 nn ps.length && s) = false by simp [headB, hl])
      have e0 : ((ps.length : Int) == 0) = false := by rw [beq_eq_false_iff_ne]; omega
      clear hl
      go_enter Tryd.func19, Tryd.ntmps19
      go_wp2
      go_ret
      exact ⟨ret_bool (by first | exact HRES.out.symm | (have hh := HRES.out; simpa using hh.symm)), HBW.out⟩
  have q1 : (kk == 1) = false := by rw [beq_eq_false_iff_ne]; exact k1
  have q2 : (kk == 2) = false := by rw [beq_eq_false_iff_ne]; exact k2
  have q3 : (kk == 3) = false := by rw [beq_eq_false_iff_ne]; exact k3
  have q4 : (kk == 4) = false := by rw [beq_eq_false_iff_ne]; exact k4
  have q5 : (kk == 5) = false := by rw [beq_eq_false_iff_ne]; exact k5
  have HRES := Lib.hid (show (headB kk nn ps.length && s) = false by simp [headB, k1, k2, k3, k4, k5])
  clear k1 k2 k3 k4 k5
  go_enter Tryd.func19, Tryd.ntmps19
  go_wp2
  go_ret
  exact ⟨ret_bool (by first | exact HRES.out.symm | (have hh := HRES.out; simpa using hh.symm)), HBW.out⟩
/-- A part of a value, with its numbers' range. -/
theorem refsound_k : ∀ (k : Nat) (v : V) (A : Option Addr) (c : Nat) (w : World), size v ≤ k → good v → VR w v A c →
    Calls Tryd.prog 19 #[.agg #[.int .i64 v.f0, .int .i64 v.f1, .slice A v.f2.length c]] w fun e w' => e = .returned (.bool (sound v)) ∧ Below w.heap.size w w' := by
  intro k
  induction k with
  | zero => intro v A c w hk; have := size_pos v; omega
  | succ k ih =>
    intro v A c w hk hg h
    rw [sound_eq]
    have hg2 := hg
    rw [good_eq] at hg2
    exact refsound_core v.f0 v.f1 v.f2 A c w hg2.1.1 hg2.1.2 h.1 h.2 (fun p hp A c W hV => ih p A c W (by have := size_part hp; omega) (good_part hg hp) hV)
theorem refsound_calls (v : V) (A : Option Addr) (c : Nat) (w : World) (hg : good v) (h : VR w v A c) :
    Calls Tryd.prog 19 #[.agg #[.int .i64 v.f0, .int .i64 v.f1, .slice A v.f2.length c]] w fun e w' => e = .returned (.bool (sound v)) ∧ Below w.heap.size w w' := refsound_k (size v) v A c w (Nat.le_refl _) hg h
set_option maxHeartbeats 800000 in
theorem refformed_calls (v : V) (A : Option Addr) (c : Nat) (w : World) (hg : good v) (h : VR w v A c) :
    Calls Tryd.prog 12 #[.agg #[.int .i64 v.f0, .int .i64 v.f1, .slice A v.f2.length c]] w fun e w' => e = .returned (.bool (formedV v)) ∧ Below w.heap.size w w' := by
  have hF := boxV h
  obtain ⟨c0, c1, c2, hp, hbw⟩ := hF _ (Below.refl _ _)
  have HN := Lib.hid (refnodes_calls v A c _ hp)
  have HF := Lib.hid hF
  have HG := Lib.hid hg
  have hq : nodesN v ≤ 2001 := by unfold nodesN; omega
  have HQ := Lib.hid (show nodesN v = min (size v) 2001 from rfl)
  generalize nodesN v = q at hq HN HQ
  clear hF hp hbw h hg
  go_enter Tryd.func12, Tryd.ntmps12
  go_wp2_with fail
  refine HN.out.mono ?_
  rintro e w1 ⟨rfl, hb1⟩
  clear c0 c1 c2
  obtain ⟨c0, c1, c2, hp, hbw⟩ := HF.out _ hb1
  have HB := Lib.hid hbw
  by_cases hs : q ≤ 2000
  · have HS := Lib.hid (refsound_calls v A c _ HG.out hp)
    have HRES := Lib.hid (show formedV v = sound v by
      have := HQ.out
      have h2 : size v ≤ 2000 := by omega
      simp [formedV, h2])
    clear hp hbw hb1
    go_wp2_with (go_at_call 19; refine HS.out.mono ?_; rintro e w2 ⟨rfl, hb2⟩)
    go_ret
    exact ⟨ret_bool HRES.out.symm, below_step HB.out hb2⟩
  · have HRES := Lib.hid (show formedV v = false by
      have := HQ.out
      have h2 : ¬ size v ≤ 2000 := by omega
      simp [formedV, h2])
    clear hp hbw hb1
    go_wp2
    go_ret
    exact ⟨ret_bool HRES.out.symm, HB.out⟩
set_option maxHeartbeats 400000 in
theorem small_calls (v : V) (A : Option Addr) (c : Nat) (w : World) (h : VR w v A c) (t : Bool) (ht : decide (size v ≤ 2000) = t) :
    Calls Tryd.prog 6 #[.agg #[.int .i64 v.f0, .int .i64 v.f1, .slice A v.f2.length c]] w fun e w' => e = .returned (.bool t) ∧ Below w.heap.size w w' := by
  obtain ⟨c0, c1, c2, hp, hbw⟩ := boxV h _ (Below.refl _ _)
  have HN := Lib.hid (refnodes_calls v A c _ hp)
  have hq : nodesN v ≤ 2001 := by unfold nodesN; omega
  have HQ := Lib.hid (show nodesN v = min (size v) 2001 from rfl)
  generalize nodesN v = q at hq HN HQ
  have HB := Lib.hid hbw
  have HT := Lib.hid ht
  clear hp hbw h ht
  by_cases hs : q ≤ 2000
  · go_enter Tryd.func6, Tryd.ntmps6
    go_wp2_with (go_at_call 14; refine HN.out.mono ?_; rintro e w1 ⟨rfl, hb1⟩)
    go_ret
    refine ⟨ret_bool ?_, below_step HB.out hb1⟩
    have := HQ.out
    rw [← HT.out]
    simp
    omega
  · go_enter Tryd.func6, Tryd.ntmps6
    go_wp2_with (go_at_call 14; refine HN.out.mono ?_; rintro e w1 ⟨rfl, hb1⟩)
    go_ret
    refine ⟨ret_bool ?_, below_step HB.out hb1⟩
    have := HQ.out
    rw [← HT.out]
    simp
    omega
end Go.Proofs.YtcikgloiojglpaaDoor.Val
