/- sound and Formed of the program's package value and of the reference, each at every value. No condition. -/
import Derived.Test.YtcikgloiojglpaaDoorVal
namespace Go.Proofs.YtcikgloiojglpaaDoor.Val
set_option linter.unusedVariables false
set_option linter.unusedSimpArgs false
open Go.RowKit Go.Proofs.YtcikgloiojglpaaDoorW.PrintWords Go.Proofs.YtcikgloiojglpaaDoor.Aux Go.Proofs.YtcikgloiojglpaaDoor.Kinds Go.Proofs.YtcikgloiojglpaaDoor.ValSpec
/-- What is known of a part's soundness. -/
def Snd (f : Nat) (ps : List V) : Prop := ∀ p, p ∈ ps → ∀ A c W, VR W p A c → Calls Tryd.prog f #[.agg #[.int .i64 p.f0, .int .i64 p.f1, .slice A p.f2.length c]] W fun e w' => e = .returned (.bool (sound p)) ∧ Below W.heap.size W w'
set_option maxHeartbeats 400000 in
theorem snd1_calls (p : V) (A : Option Addr) (c : Nat) (w : World) (h : VR w p A c) (hI : ∀ A c W, VR W p A c → Calls Tryd.prog 18 #[.agg #[.int .i64 p.f0, .int .i64 p.f1, .slice A p.f2.length c]] W fun e w' => e = .returned (.bool (sound p)) ∧ Below W.heap.size W w') (t : Bool) (ht : sound p = t) :
    Calls Tryd.prog 25 #[.agg #[.int .i64 p.f0, .int .i64 p.f1, .slice A p.f2.length c]] w fun e w' => e = .returned (.bool (!t)) ∧ Below w.heap.size w w' := by
  obtain ⟨c0, c1, c2, hp, hbw⟩ := boxV h _ (Below.refl _ _)
  have hcall := hI A c _ hp
  rw [ht] at hcall
  have HC := Lib.hid hcall
  have HB := Lib.hid hbw
  clear hcall hp hbw hI h ht
  go_enter Tryd.func25, Tryd.ntmps25
  go_wp2_with (go_at_call 18; refine HC.out.mono ?_; rintro e w1 ⟨rfl, hb1⟩)
  go_ret
  exact ⟨rfl, below_step HB.out hb1⟩
set_option maxRecDepth 100000 in
set_option maxHeartbeats 800000 in
theorem indexf_calls (ps : List V) (A : Option Addr) (c : Nat) (w : World) (hC : kV.C w A ps.length ps) (hI : Snd 18 ps) :
    Calls Tryd.prog 31 #[.slice A ps.length c, .func (.func 25) #[] #[]] w fun e w' => ∃ r : Int, e = .returned (.int .i64 r) ∧ (sounds ps = decide (r < 0)) ∧ Below w.heap.size w w' := by
  have HC := Lib.hid hC
  have HI := Lib.hid hI
  have hm := (C_len hC).2
  clear hC hI
  go_enter Tryd.func31, Tryd.ntmps31
  go_wp2_with fail
  go_loopg [8] (ps.length) (fun g i wx => ∃ k : Nat, i = .int .i64 k ∧ k ≤ ps.length ∧ g = ps.length - k ∧ Hid (Below w.heap.size w wx) ∧ Hid (∀ j, j < k → sound (ps.getD j zV) = true))
  case atStart => exact ⟨0, rfl, Nat.zero_le _, rfl, Lib.hid (Below.refl _ _), Lib.hid (fun j hj => absurd hj (by omega))⟩
  case round =>
    obtain ⟨k, rfl, hk, rfl, hbr, hall⟩ := hrel
    by_cases hlt : k < ps.length
    · obtain ⟨ad, A', c', hA, e0, e1, e2, hp⟩ := el (Kd.C_below HC.out hbr.out) hlt
      subst hA
      obtain ⟨t, ht⟩ : ∃ t, sound (ps.getD k zV) = t := ⟨_, rfl⟩
      have HCL := Lib.hid (snd1_calls _ A' c' wr hp (HI.out _ (getD_mem hlt)) t ht)
      have HT := Lib.hid ht
      clear hp ht
      generalize (ps.getD k zV).f0 = x0 at e0 HCL
      generalize (ps.getD k zV).f1 = x1 at e1 HCL
      generalize (ps.getD k zV).f2.length = x2 at e2 HCL
      cases t with
      | true =>
        have HALL := Lib.hid (upto_succ hall.out HT.out)
        go_wp2_with (go_at_call 25; refine HCL.out.mono ?_; rintro e w1 ⟨rfl, hb1⟩)
        go_roundg (ps.length - (k + 1))
        case measure => omega
        case rel => exact ⟨k + 1, by go_num, by omega, rfl, Lib.hid (below_step hbr.out hb1), HALL⟩
      | false =>
        have HRES := Lib.hid (sounds_at hlt HT.out)
        go_wp2_with (go_at_call 25; refine HCL.out.mono ?_; rintro e w1 ⟨rfl, hb1⟩)
        go_ret
        exact ⟨k, rfl, by rw [HRES.out]; simp, below_step hbr.out hb1⟩
    · obtain rfl : k = ps.length := by omega
      have HRES := Lib.hid (sounds_all hall.out)
      go_wp2
      go_ret
      exact ⟨-1, rfl, by rw [HRES.out]; rfl, hbr.out⟩
theorem containsf_calls (ps : List V) (A : Option Addr) (c : Nat) (w : World) (hC : kV.C w A ps.length ps) (hI : Snd 18 ps) :
    Calls Tryd.prog 24 #[.slice A ps.length c, .func (.func 25) #[] #[]] w fun e w' => e = .returned (.bool (!sounds ps)) ∧ Below w.heap.size w w' := by
  have HC := Lib.hid (indexf_calls ps A c w hC hI)
  clear hC hI
  go_enter Tryd.func24, Tryd.ntmps24
  go_wp2_with (go_at_call 31; refine HC.out.mono ?_; rintro e w1 ⟨r, rfl, hr, hb1⟩; have HR := Lib.hid hr; clear hr)
  go_ret
  refine ⟨ret_bool ?_, hb1⟩
  rw [HR.out]
  by_cases h : r < 0
  · simp [h]
  · simp [h]; omega
set_option maxRecDepth 100000 in
set_option maxHeartbeats 3200000 in
theorem sound_core (kk nn : Int) (ps : List V) (A : Option Addr) (c : Nat) (w : World) (hr0 : -9223372036854775808 ≤ nn) (hr1 : nn ≤ 9223372036854775807) (h : ps.length ≤ c) (hC : kV.C w A ps.length ps) (hI : Snd 18 ps) :
    Calls Tryd.prog 18 #[.agg #[.int .i64 kk, .int .i64 nn, .slice A ps.length c]] w fun e w' => e = .returned (.bool (headB kk nn ps.length && sounds ps)) ∧ Below w.heap.size w w' := by
  have hb1 := below_alloc (Below.refl w.heap.size w) (.cells #[.int .i64 kk, .int .i64 nn, .slice A ps.length c] 24)
  have HCF := Lib.hid (containsf_calls ps A c (w.alloc (.cells #[.int .i64 kk, .int .i64 nn, .slice A ps.length c] 24)) (Kd.C_below hC hb1) hI)
  have HBW := Lib.hid hb1
  have hm := (C_len hC).2
  obtain ⟨s, hs⟩ : ∃ s, s = sounds ps := ⟨_, rfl⟩
  rw [← hs] at HCF
  rw [← hs]
  clear hb1 hC hI h hs
  by_cases k1 : kk = 1
  · subst k1
    by_cases hl : ps.length = 0
    · have HRES := Lib.hid (show (headB 1 nn ps.length && s) = s by simp [headB, hl])
      have e0 : ((ps.length : Int) == 0) = true := by rw [beq_iff_eq]; omega
      clear hl
      go_enter Tryd.func18, Tryd.ntmps18
      go_wp2_with (go_at_call 24; refine HCF.out.mono ?_; rintro e w1 ⟨rfl, hb1⟩)
      go_ret
      exact ⟨ret_bool HRES.out.symm, below_step HBW.out hb1⟩
    · have HRES := Lib.hid (show (headB 1 nn ps.length && s) = false by simp [headB, hl])
      have e0 : ((ps.length : Int) == 0) = false := by rw [beq_eq_false_iff_ne]; omega
      clear hl
      go_enter Tryd.func18, Tryd.ntmps18
      go_wp2
      go_ret
      exact ⟨ret_bool HRES.out.symm, HBW.out⟩
  by_cases k2 : kk = 2
  · subst k2
    by_cases hl : ps.length = 0
    · by_cases hn : nn = 0 ∨ nn = 1
      · have HRES := Lib.hid (show (headB 2 nn ps.length && s) = s by simp [headB, hl, hn])
        have e0 : ((ps.length : Int) == 0) = true := by rw [beq_iff_eq]; omega
        have e1 : (nn / 2 == 0) = true := by rw [beq_iff_eq]; omega
        clear hl hn
        go_enter Tryd.func18, Tryd.ntmps18
        go_wp2_with (go_at_call 24; refine HCF.out.mono ?_; rintro e w1 ⟨rfl, hb1⟩)
        go_ret
        exact ⟨ret_bool HRES.out.symm, below_step HBW.out hb1⟩
      · have HRES := Lib.hid (show (headB 2 nn ps.length && s) = false by simp [headB, hl, hn])
        have e0 : ((ps.length : Int) == 0) = true := by rw [beq_iff_eq]; omega
        have e1 : (nn / 2 == 0) = false := by rw [beq_eq_false_iff_ne]; omega
        clear hl hn
        go_enter Tryd.func18, Tryd.ntmps18
        go_wp2
        go_ret
        exact ⟨ret_bool HRES.out.symm, HBW.out⟩
    · have HRES := Lib.hid (show (headB 2 nn ps.length && s) = false by simp [headB, hl])
      have e0 : ((ps.length : Int) == 0) = false := by rw [beq_eq_false_iff_ne]; omega
      clear hl
      go_enter Tryd.func18, Tryd.ntmps18
      go_wp2
      go_ret
      exact ⟨ret_bool HRES.out.symm, HBW.out⟩
  by_cases k3 : kk = 3
  · subst k3
    by_cases hl : ps.length = 2
    · by_cases hn : nn = 0
      · have HRES := Lib.hid (show (headB 3 nn ps.length && s) = s by simp [headB, hl, hn])
        have e0 : ((ps.length : Int) == 2) = true := by rw [beq_iff_eq]; omega
        have e1 : (nn == 0) = true := by rw [beq_iff_eq]; omega
        clear hl hn
        go_enter Tryd.func18, Tryd.ntmps18
        go_wp2_with (go_at_call 24; refine HCF.out.mono ?_; rintro e w1 ⟨rfl, hb1⟩)
        go_ret
        exact ⟨ret_bool HRES.out.symm, below_step HBW.out hb1⟩
      · have HRES := Lib.hid (show (headB 3 nn ps.length && s) = false by simp [headB, hl, hn])
        have e0 : ((ps.length : Int) == 2) = true := by rw [beq_iff_eq]; omega
        have e1 : (nn == 0) = false := by rw [beq_eq_false_iff_ne]; omega
        clear hl hn
        go_enter Tryd.func18, Tryd.ntmps18
        go_wp2
        go_ret
        exact ⟨ret_bool HRES.out.symm, HBW.out⟩
    · have HRES := Lib.hid (show (headB 3 nn ps.length && s) = false by simp [headB, hl])
      have e0 : ((ps.length : Int) == 2) = false := by rw [beq_eq_false_iff_ne]; omega
      clear hl
      go_enter Tryd.func18, Tryd.ntmps18
      go_wp2
      go_ret
      exact ⟨ret_bool HRES.out.symm, HBW.out⟩
  by_cases k4 : kk = 4
  · subst k4
    by_cases hl : 0 ≤ nn
    · by_cases hn : nn < 60
      · have HRES := Lib.hid (show (headB 4 nn ps.length && s) = s by simp [headB, hl, hn])
        go_enter Tryd.func18, Tryd.ntmps18
        go_wp2_with (go_at_call 24; refine HCF.out.mono ?_; rintro e w1 ⟨rfl, hb1⟩)
        go_ret
        exact ⟨ret_bool HRES.out.symm, below_step HBW.out hb1⟩
      · have HRES := Lib.hid (show (headB 4 nn ps.length && s) = false by simp [headB, hl, hn])
        go_enter Tryd.func18, Tryd.ntmps18
        go_wp2
        go_ret
        exact ⟨ret_bool HRES.out.symm, HBW.out⟩
    · have HRES := Lib.hid (show (headB 4 nn ps.length && s) = false by simp [headB, hl])
      go_enter Tryd.func18, Tryd.ntmps18
      go_wp2
      go_ret
      exact ⟨ret_bool HRES.out.symm, HBW.out⟩
  by_cases k5 : kk = 5
  · subst k5
    by_cases hl : ps.length = 0
    · by_cases hn : 0 ≤ nn
      · by_cases hq : nn ≤ 2147483647
        · have HRES := Lib.hid (show (headB 5 nn ps.length && s) = s by simp [headB, hl, hn, hq])
          have e0 : ((ps.length : Int) == 0) = true := by rw [beq_iff_eq]; omega
          clear hl
          go_enter Tryd.func18, Tryd.ntmps18
          go_wp2_with (go_at_call 24; refine HCF.out.mono ?_; rintro e w1 ⟨rfl, hb1⟩)
          go_ret
          exact ⟨ret_bool HRES.out.symm, below_step HBW.out hb1⟩
        · have HRES := Lib.hid (show (headB 5 nn ps.length && s) = false by simp [headB, hl, hn, hq])
          have e0 : ((ps.length : Int) == 0) = true := by rw [beq_iff_eq]; omega
          clear hl
          go_enter Tryd.func18, Tryd.ntmps18
          go_wp2
          go_ret
          exact ⟨ret_bool HRES.out.symm, HBW.out⟩
      · have HRES := Lib.hid (show (headB 5 nn ps.length && s) = false by simp [headB, hl, hn])
        have e0 : ((ps.length : Int) == 0) = true := by rw [beq_iff_eq]; omega
        clear hl
        go_enter Tryd.func18, Tryd.ntmps18
        go_wp2
        go_ret
        exact ⟨ret_bool HRES.out.symm, HBW.out⟩
    · have HRES := Lib.hid (show (headB 5 nn ps.length && s) = false by simp [headB, hl])
      have e0 : ((ps.length : Int) == 0) = false := by rw [beq_eq_false_iff_ne]; omega
      clear hl
      go_enter Tryd.func18, Tryd.ntmps18
      go_wp2
      go_ret
      exact ⟨ret_bool HRES.out.symm, HBW.out⟩
  have q1 : (kk == 1) = false := by rw [beq_eq_false_iff_ne]; exact k1
  have q2 : (kk == 2) = false := by rw [beq_eq_false_iff_ne]; exact k2
  have q3 : (kk == 3) = false := by rw [beq_eq_false_iff_ne]; exact k3
  have q4 : (kk == 4) = false := by rw [beq_eq_false_iff_ne]; exact k4
  have q5 : (kk == 5) = false := by rw [beq_eq_false_iff_ne]; exact k5
  have HRES := Lib.hid (show (headB kk nn ps.length && s) = false by simp [headB, k1, k2, k3, k4, k5])
  clear k1 k2 k3 k4 k5
  go_enter Tryd.func18, Tryd.ntmps18
  go_wp2
  go_ret
  exact ⟨ret_bool HRES.out.symm, HBW.out⟩
/-- A part of a value, with its numbers' range. -/
theorem sound_k : ∀ (k : Nat) (v : V) (A : Option Addr) (c : Nat) (w : World), size v ≤ k → good v → VR w v A c →
    Calls Tryd.prog 18 #[.agg #[.int .i64 v.f0, .int .i64 v.f1, .slice A v.f2.length c]] w fun e w' => e = .returned (.bool (sound v)) ∧ Below w.heap.size w w' := by
  intro k
  induction k with
  | zero => intro v A c w hk; have := size_pos v; omega
  | succ k ih =>
    intro v A c w hk hg h
    rw [sound_eq]
    have hg2 := hg
    rw [good_eq] at hg2
    exact sound_core v.f0 v.f1 v.f2 A c w hg2.1.1 hg2.1.2 h.1 h.2 (fun p hp A c W hV => ih p A c W (by have := size_part hp; omega) (good_part hg hp) hV)
theorem sound_calls (v : V) (A : Option Addr) (c : Nat) (w : World) (hg : good v) (h : VR w v A c) :
    Calls Tryd.prog 18 #[.agg #[.int .i64 v.f0, .int .i64 v.f1, .slice A v.f2.length c]] w fun e w' => e = .returned (.bool (sound v)) ∧ Below w.heap.size w w' := sound_k (size v) v A c w (Nat.le_refl _) hg h
set_option maxHeartbeats 800000 in
theorem formed_calls (v : V) (A : Option Addr) (c : Nat) (w : World) (hg : good v) (h : VR w v A c) :
    Calls Tryd.prog 11 #[.agg #[.int .i64 v.f0, .int .i64 v.f1, .slice A v.f2.length c]] w fun e w' => e = .returned (.bool (formedV v)) ∧ Below w.heap.size w w' := by
  have hF := boxV h
  obtain ⟨c0, c1, c2, hp, hbw⟩ := hF _ (Below.refl _ _)
  have HN := Lib.hid (nodes_calls v A c _ hp)
  have HF := Lib.hid hF
  have HG := Lib.hid hg
  have hq : nodesN v ≤ 2001 := by unfold nodesN; omega
  have HQ := Lib.hid (show nodesN v = min (size v) 2001 from rfl)
  generalize nodesN v = q at hq HN HQ
  clear hF hp hbw h hg
  go_enter Tryd.func11, Tryd.ntmps11
  go_wp2_with fail
  refine HN.out.mono ?_
  rintro e w1 ⟨rfl, hb1⟩
  clear c0 c1 c2
  obtain ⟨c0, c1, c2, hp, hbw⟩ := HF.out _ hb1
  have HB := Lib.hid hbw
  by_cases hs : q ≤ 2000
  · have HS := Lib.hid (sound_calls v A c _ HG.out hp)
    have HRES := Lib.hid (show formedV v = sound v by
      have := HQ.out
      have h2 : size v ≤ 2000 := by omega
      simp [formedV, h2])
    clear hp hbw hb1
    go_wp2_with (go_at_call 18; refine HS.out.mono ?_; rintro e w2 ⟨rfl, hb2⟩)
    go_ret
    exact ⟨ret_bool HRES.out.symm, below_step HB.out hb2⟩
  · have HRES := Lib.hid (show formedV v = false by
      have := HQ.out
      have h2 : ¬ size v ≤ 2000 := by omega
      simp [formedV, h2])
    clear hp hbw hb1
    go_wp2
    go_ret
    exact ⟨ret_bool HRES.out.symm, HB.out⟩
end Go.Proofs.YtcikgloiojglpaaDoor.Val
