/- The law palisadelaw03.ValueTexts answers true at every two values. Condition: the table of strconv's powers of ten is laid. -/
import Derived.Test.YtcikgloiojglpaaDoorValInj
namespace Go.Proofs.YtcikgloiojglpaaDoor.Val
set_option linter.unusedVariables false
set_option linter.unusedSimpArgs false
open Go.RowKit Go.Proofs.YtcikgloiojglpaaDoorW.PrintWords Go.Proofs.YtcikgloiojglpaaDoor.Aux Go.Proofs.YtcikgloiojglpaaDoor.Kinds Go.Proofs.YtcikgloiojglpaaDoor.ValSpec
def v7 : V := ⟨1, -7, []⟩
theorem VR_nil (w : World) (a b : Int) : VR w ⟨a, b, []⟩ none 0 := ⟨Nat.le_refl _, Kd.C_nil _ _⟩
theorem tb7 : tb v7 = ⟨#[45, 55]⟩ := by
  have : text v7 = [45, 55] := by
    rw [text_eq]
    show textOf 1 (-7) [] = _
    simp only [textOf]
    show Lib.itoa (-7) = _
    unfold Lib.itoa
    rw [if_pos (by omega), Lib.decDigits_one (by decide)]
    decide
  rw [tb, this]
  rfl
set_option maxHeartbeats 800000 in
theorem awake_calls (w : World) (hT : Tbi w) : Calls Tryd.prog 5 #[] w fun e w' => e = .returned (.bool true) ∧ Below w.heap.size w w' := by
  have HX := Lib.hid (Text_calls v7 none 0 w (by rw [good_eq]; exact ⟨⟨by decide, by decide⟩, by rw [show v7.f2 = [] from rfl, goods]; trivial⟩) (VR_nil w _ _) hT)
  go_enter Tryd.func5, Tryd.ntmps5
  go_wp2_with fail
  refine HX.out.mono ?_
  rintro e w1 ⟨h, hb1⟩
  have HB1 := Lib.hid hb1
  have HN := Lib.hid (nodes_calls zV none 0 w1 (VR_nil w1 _ _))
  have hf : formedV v7 = true := by decide
  rcases h with ⟨_, rfl⟩ | ⟨h, _⟩
  · rw [tb7]
    clear hf hb1
    have s0 : (ByteArray.toList ⟨#[45, 55]⟩ == ByteArray.toList ⟨#[45, 55]⟩) = true := by simp
    have HN1 := Lib.hid (show nodesN zV = 1 from by decide)
    rw [HN1.out] at HN
    go_wp2_with (go_at_call 13; refine HN.out.mono ?_; rintro e w2 ⟨rfl, hb2⟩)
    go_ret
    exact ⟨rfl, below_step HB1.out hb2⟩
  · rw [hf] at h; cases h
theorem str_beq {a b : V} (ha : sound a = true) (hb : sound b = true) : ((tb a).toList == (tb b).toList) = eqB a b := by
  by_cases h : a = b
  · rw [eqB_true h, h]; simp
  · rw [eqB_false h, beq_eq_false_iff_ne, ByteArray.toList_eq, ByteArray.toList_eq, tb, tb, bs_list, bs_list]
    exact fun e => h (text_inj ha hb e)
theorem str_some {a : V} (hg : good a) : ((tb a).toList == ByteArray.toList ⟨#[]⟩) = false ∧ ((tb a).toList != ByteArray.toList ⟨#[]⟩) = true ∧ (tb a).toList.isEmpty = false := by
  have h1 := (text_len a hg).1
  have h2 : (tb a).toList ≠ [] := by
    rw [ByteArray.toList_eq, tb, bs_list]
    intro e
    rw [e] at h1
    simp at h1
  have h3 : ((tb a).toList == ByteArray.toList ⟨#[]⟩) = false := by rw [beq_eq_false_iff_ne, ByteArray.toList_eq ⟨#[]⟩]; exact h2
  exact ⟨h3, by rw [bne, h3]; rfl, by rw [List.isEmpty_eq_false_iff]; exact h2⟩
theorem formed_sound {v : V} (h : formedV v = true) : sound v = true := by
  simp only [formedV, Bool.and_eq_true, decide_eq_true_eq] at h
  exact h.2
set_option maxRecDepth 100000 in
set_option maxHeartbeats 3200000 in
theorem texts_calls (v u : V) (A A2 : Option Addr) (c c2 : Nat) (w : World) (hg : good v) (hg2 : good u) (h : VR w v A c) (h2 : VR w u A2 c2) (hT : Tbi w) :
    Calls Tryd.prog 3 #[.agg #[.int .i64 v.f0, .int .i64 v.f1, .slice A v.f2.length c], .agg #[.int .i64 u.f0, .int .i64 u.f1, .slice A2 u.f2.length c2]] w fun e w' => e = .returned (.bool true) ∧ Below w.heap.size w w' := by
  have hF0 := boxV2 h h2
  have hF : ∀ W, Below ((w.alloc (.cells #[.int .i64 v.f0, .int .i64 v.f1, .slice A v.f2.length c] 24)).alloc (.cells #[.int .i64 u.f0, .int .i64 u.f1, .slice A2 u.f2.length c2] 24)).heap.size ((w.alloc (.cells #[.int .i64 v.f0, .int .i64 v.f1, .slice A v.f2.length c] 24)).alloc (.cells #[.int .i64 u.f0, .int .i64 u.f1, .slice A2 u.f2.length c2] 24)) W → (W.cell? ⟨w.heap.size, 0, none⟩ = some (.int .i64 v.f0) ∧ W.cell? ⟨w.heap.size, 1, none⟩ = some (.int .i64 v.f1) ∧ W.cell? ⟨w.heap.size, 2, none⟩ = some (.slice A v.f2.length c)) ∧ (W.cell? ⟨w.heap.size + 1, 0, none⟩ = some (.int .i64 u.f0) ∧ W.cell? ⟨w.heap.size + 1, 1, none⟩ = some (.int .i64 u.f1) ∧ W.cell? ⟨w.heap.size + 1, 2, none⟩ = some (.slice A2 u.f2.length c2)) ∧ VR W v A c ∧ VR W u A2 c2 ∧ Below w.heap.size w W ∧ Tbi W := fun W hW => by
    obtain ⟨a, b, cc, d, e⟩ := hF0 W hW
    exact ⟨a, b, cc, d, e, hT.below e⟩
  obtain ⟨W0, hW0⟩ : ∃ W0, W0 = ((w.alloc (.cells #[.int .i64 v.f0, .int .i64 v.f1, .slice A v.f2.length c] 24)).alloc (.cells #[.int .i64 u.f0, .int .i64 u.f1, .slice A2 u.f2.length c2] 24)) := ⟨_, rfl⟩
  rw [← hW0] at hF
  have HW0 : Hid (Below W0.heap.size W0 ((w.alloc (.cells #[.int .i64 v.f0, .int .i64 v.f1, .slice A v.f2.length c] 24)).alloc (.cells #[.int .i64 u.f0, .int .i64 u.f1, .slice A2 u.f2.length c2] 24))) := Lib.hid (by rw [← hW0]; exact Below.refl _ _)
  clear hW0 hF0
  have HF := Lib.hid hF
  have HG := Lib.hid hg
  have HG2 := Lib.hid hg2
  have HAW := Lib.hid (show ∀ W, Below W0.heap.size W0 W → Calls Tryd.prog 5 #[] W fun e w' => e = .returned (.bool true) ∧ Below W0.heap.size W0 w' ∧ Below w.heap.size w w' from fun W hW => by
    refine (awake_calls W (HF.out W hW).2.2.2.2.2).mono ?_
    rintro e w' ⟨he, hb⟩
    exact ⟨he, below_step hW hb, (HF.out _ (below_step hW hb)).2.2.2.2.1⟩)
  obtain ⟨t, ht⟩ : ∃ t, decide (size v ≤ 2000) = t := ⟨_, rfl⟩
  obtain ⟨t2, ht2⟩ : ∃ t, decide (size u ≤ 2000) = t := ⟨_, rfl⟩
  have HS1 := Lib.hid (show ∀ W, Below W0.heap.size W0 W → Calls Tryd.prog 6 #[.agg #[.int .i64 v.f0, .int .i64 v.f1, .slice A v.f2.length c]] W fun e w' => e = .returned (.bool t) ∧ Below W0.heap.size W0 w' from fun W hW => by
    refine (small_calls v A c W (HF.out W hW).2.2.1 t ht).mono ?_
    rintro e w' ⟨he, hb⟩
    exact ⟨he, below_step hW hb⟩)
  have HS2 := Lib.hid (show ∀ W, Below W0.heap.size W0 W → Calls Tryd.prog 6 #[.agg #[.int .i64 u.f0, .int .i64 u.f1, .slice A2 u.f2.length c2]] W fun e w' => e = .returned (.bool t2) ∧ Below W0.heap.size W0 w' from fun W hW => by
    refine (small_calls u A2 c2 W (HF.out W hW).2.2.2.1 t2 ht2).mono ?_
    rintro e w' ⟨he, hb⟩
    exact ⟨he, below_step hW hb⟩)
  obtain ⟨⟨x0, x1, x2⟩, ⟨y0, y1, y2⟩, _, _, _, _⟩ := hF _ HW0.out
  clear hF h h2 hT hg hg2 ht ht2
  go_enter Tryd.func3, Tryd.ntmps3
  go_wp2_with fail
  refine (HAW.out _ HW0.out).mono ?_
  rintro e w1 ⟨rfl, hb1, _⟩
  clear x0 x1 x2 y0 y1 y2
  obtain ⟨⟨x0, x1, x2⟩, ⟨y0, y1, y2⟩, _, _, _, _⟩ := HF.out _ hb1
  go_wp2_with fail
  refine (HS1.out _ hb1).mono ?_
  rintro e w2 ⟨rfl, hb2⟩
  clear x0 x1 x2 y0 y1 y2 hb1
  obtain ⟨⟨x0, x1, x2⟩, ⟨y0, y1, y2⟩, _, _, _, _⟩ := HF.out _ hb2
  cases t with
  | false =>
    go_wp2_with (go_at_call 5; refine (HAW.out _ hb2).mono ?_; rintro e w3 ⟨rfl, _, hb3⟩)
    go_ret
    exact ⟨rfl, hb3⟩
  | true =>
    go_wp2_with fail
    refine (HS2.out _ hb2).mono ?_
    rintro e w3 ⟨rfl, hb3⟩
    clear x0 x1 x2 y0 y1 y2 hb2
    obtain ⟨⟨x0, x1, x2⟩, ⟨y0, y1, y2⟩, hv, hu, hbw, htb⟩ := HF.out _ hb3
    cases t2 with
    | false =>
      clear hv hu hbw htb
      go_wp2_with (go_at_call 5; refine (HAW.out _ hb3).mono ?_; rintro e w4 ⟨rfl, _, hb4⟩)
      go_ret
      exact ⟨rfl, hb4⟩
    | true =>
      have HX := Lib.hid (Text_calls v A c _ HG.out hv htb)
      have HB3 := Lib.hid hb3
      clear hv hu hbw htb hb3
      go_wp2_with fail
      refine HX.out.mono ?_
      rintro e w4 ⟨hp, hb4⟩
      have HB4 := Lib.hid (below_step HB3.out hb4)
      clear x0 x1 x2 y0 y1 y2 hb4
      obtain ⟨⟨x0, x1, x2⟩, ⟨y0, y1, y2⟩, hv, hu, hbw, htb⟩ := HF.out _ HB4.out
      have HY := Lib.hid (Text_calls u A2 c2 _ HG2.out hu htb)
      clear hv hu hbw htb
      rcases hp with ⟨hf, rfl⟩ | ⟨hf, rfl⟩
      · have HFV := Lib.hid hf
        clear hf
        go_wp2_with fail
        refine HY.out.mono ?_
        rintro e w5 ⟨hp, hb5⟩
        have HB5 := Lib.hid (below_step HB4.out hb5)
        clear x0 x1 x2 y0 y1 y2 hb5
        obtain ⟨⟨x0, x1, x2⟩, ⟨y0, y1, y2⟩, hv, hu, hbw, htb⟩ := HF.out _ HB5.out
        have HBW := Lib.hid hbw
        have HZ := Lib.hid (refsame_calls v u A A2 c c2 _ hv hu)
        clear hv hu hbw htb
        rcases hp with ⟨hf, rfl⟩ | ⟨hf, rfl⟩
        · have hst := str_beq (formed_sound HFV.out) (formed_sound hf)
          obtain ⟨q, hq⟩ : ∃ q, q = eqB v u := ⟨_, rfl⟩
          rw [← hq] at hst HZ
          generalize tb v = sv at *
          generalize tb u = su at *
          have q2 : (q == q) = true := by simp
          clear hf hq
          go_wp2_with (go_at_call 8; refine HZ.out.mono ?_; rintro e w6 ⟨rfl, hb6⟩)
          go_ret
          exact ⟨ret_bool (by simp), below_step HBW.out hb6⟩
        · obtain ⟨s0, s1, s2⟩ := str_some HG.out
          generalize tb v = sv at *
          clear hf
          go_wp2
          go_ret
          exact ⟨rfl, HBW.out⟩
      · clear hf
        go_wp2_with fail
        refine HY.out.mono ?_
        rintro e w5 ⟨hp, hb5⟩
        have HB5 := Lib.hid (below_step HB4.out hb5)
        clear x0 x1 x2 y0 y1 y2 hb5
        obtain ⟨⟨x0, x1, x2⟩, ⟨y0, y1, y2⟩, _, _, hbw, _⟩ := HF.out _ HB5.out
        have HBW := Lib.hid hbw
        have s0 : (ByteArray.toList ⟨#[]⟩ == ByteArray.toList ⟨#[]⟩) = true := by simp
        clear hbw
        rcases hp with ⟨hf, rfl⟩ | ⟨hf, rfl⟩
        all_goals
          clear hf
          go_wp2
          go_ret
          exact ⟨rfl, HBW.out⟩
end Go.Proofs.YtcikgloiojglpaaDoor.Val
