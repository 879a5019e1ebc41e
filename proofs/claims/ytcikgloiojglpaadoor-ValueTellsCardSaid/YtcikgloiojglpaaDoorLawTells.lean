/- The law palisadelaw03.ValueTells answers true at every two values and every number. Condition: the table of strconv's powers of ten is laid. -/
import Derived.Test.YtcikgloiojglpaaDoorLawTexts
namespace Go.Proofs.YtcikgloiojglpaaDoor.Val
set_option linter.unusedVariables false
set_option linter.unusedSimpArgs false
open Go.RowKit Go.Proofs.YtcikgloiojglpaaDoorW.PrintWords Go.Proofs.YtcikgloiojglpaaDoor.Aux Go.Proofs.YtcikgloiojglpaaDoor.Kinds Go.Proofs.YtcikgloiojglpaaDoor.ValSpec
/-- A value that is read wherever the world is as it was, and the new blocks behind the two boxes are as they are. -/
def PV (w : World) (v : V) (A : Option Addr) (c : Nat) (wx : World) : Prop := ∀ W, Below w.heap.size w W → (∀ q, w.heap.size + 2 ≤ q → q < wx.heap.size → W.heap[q]? = wx.heap[q]?) → VR W v A c
theorem pair_C {W : World} {v : V} {A : Option Addr} {c r : Nat} (h : VR W v A c) (hr : W.heap[r]? = some (.cells #[.int .i64 v.f0, .int .i64 v.f1, .slice A v.f2.length c, .int .i64 v.f0, .int .i64 v.f1, .slice A v.f2.length c] 24 (0, 0))) : kV.C W (some ⟨r, 0, none⟩) 2 [v, v] := by
  have hk := k24_mk W v h.1 h.2
  refine ⟨rfl, by omega, fun _ => ⟨_, rfl, fun j p hj => ?_⟩⟩
  match j, hj with
  | 0, hj =>
    obtain rfl : v = p := by simpa using hj
    refine ⟨_, rfl, hk, fun i u hu => ?_⟩
    rw [add_plain]
    match i, hu with
    | 0, hu => obtain rfl := Option.some.inj hu; exact (blk_cell hr 0).trans rfl
    | 1, hu => obtain rfl := Option.some.inj hu; exact (blk_cell hr 1).trans rfl
    | 2, hu => obtain rfl := Option.some.inj hu; exact (blk_cell hr 2).trans rfl
  | 1, hj =>
    obtain rfl : v = p := by simpa using hj
    refine ⟨_, rfl, hk, fun i u hu => ?_⟩
    rw [add_plain]
    match i, hu with
    | 0, hu => obtain rfl := Option.some.inj hu; exact (blk_cell hr 3).trans rfl
    | 1, hu => obtain rfl := Option.some.inj hu; exact (blk_cell hr 4).trans rfl
    | 2, hu => obtain rfl := Option.some.inj hu; exact (blk_cell hr 5).trans rfl
def pairV (v : V) : V := ⟨3, 0, [v, v]⟩
theorem pair_good {v : V} (h : good v) : good (pairV v) := by
  rw [good_eq]
  refine ⟨⟨show (-9223372036854775808 : Int) ≤ 0 by decide, show (0 : Int) ≤ 9223372036854775807 by decide⟩, goods_of fun p hp => ?_⟩
  simp only [pairV, List.mem_cons, List.not_mem_nil, or_false, or_self] at hp
  rw [hp]
  exact h
theorem pair_step {w wr : World} {v' : V} {A' : Option Addr} {c' : Nat} (hp : PV w v' A' c' wr) (hbx : wr.heap[w.heap.size]? = some (.cells #[.int .i64 v'.f0, .int .i64 v'.f1, .slice A' v'.f2.length c'] 24 (0, 0))) (hb : Below w.heap.size w wr) (hz : w.heap.size + 2 ≤ wr.heap.size) {Wn : World}
    (e : Wn = (((wr.setCell ⟨w.heap.size, 0, none⟩ (.int .i64 3)).setCell ⟨w.heap.size, 1, none⟩ (.int .i64 0)).setCell ⟨w.heap.size, 2, none⟩ (.slice (some ⟨wr.heap.size, 0, none⟩) 2 2)).alloc (.cells #[.int .i64 v'.f0, .int .i64 v'.f1, .slice A' v'.f2.length c', .int .i64 v'.f0, .int .i64 v'.f1, .slice A' v'.f2.length c'] 24)) :
    PV w (pairV v') (some ⟨wr.heap.size, 0, none⟩) 2 Wn ∧ Wn.heap[w.heap.size]? = some (.cells #[.int .i64 (pairV v').f0, .int .i64 (pairV v').f1, .slice (some ⟨wr.heap.size, 0, none⟩) (pairV v').f2.length 2] 24 (0, 0)) ∧ Below w.heap.size w Wn ∧ w.heap.size + 2 ≤ Wn.heap.size := by
  have h3s : (((wr.setCell ⟨w.heap.size, 0, none⟩ (.int .i64 3)).setCell ⟨w.heap.size, 1, none⟩ (.int .i64 0)).setCell ⟨w.heap.size, 2, none⟩ (.slice (some ⟨wr.heap.size, 0, none⟩) 2 2)).heap.size = wr.heap.size := by simp [World.setCell]
  have hold : ∀ q, q ≠ w.heap.size → q < wr.heap.size → Wn.heap[q]? = wr.heap[q]? := fun q hq hl => by
    rw [e, Below.heap_alloc _ _ q (by omega)]
    exact (Below.heap_setCell _ _ _ q hq).trans ((Below.heap_setCell _ _ _ q hq).trans (Below.heap_setCell _ _ _ q hq))
  have hnew := blk_new (((wr.setCell ⟨w.heap.size, 0, none⟩ (.int .i64 3)).setCell ⟨w.heap.size, 1, none⟩ (.int .i64 0)).setCell ⟨w.heap.size, 2, none⟩ (.slice (some ⟨wr.heap.size, 0, none⟩) 2 2)) (.cells #[.int .i64 v'.f0, .int .i64 v'.f1, .slice A' v'.f2.length c', .int .i64 v'.f0, .int .i64 v'.f1, .slice A' v'.f2.length c'] 24)
  rw [h3s, ← e] at hnew
  have hsz : Wn.heap.size = wr.heap.size + 1 := by rw [e, alloc_size, h3s]
  refine ⟨fun W hbW hW => ?_, ?_, ?_, by omega⟩
  · have hv : VR W v' A' c' := hp W hbW fun q h1 h2 => by
      rw [hW q h1 (by omega), hold q (by omega) h2]
    refine ⟨Nat.le_refl 2, pair_C hv ?_⟩
    rw [hW wr.heap.size hz (by omega)]
    exact hnew
  · rw [e]
    exact blk_alloc (blk_put (blk_put (blk_put hbx 0 _ rfl) 1 _ rfl) 2 _ rfl) _
  · rw [e]
    exact below_alloc (below_set (below_set (below_set hb (Nat.le_refl _)) (Nat.le_refl _)) (Nat.le_refl _)) _
set_option maxRecDepth 100000 in
set_option maxHeartbeats 3200000 in
theorem tells_calls (v u : V) (A A2 : Option Addr) (c c2 : Nat) (a : Int) (w : World) (ha : 0 ≤ a ∧ a ≤ 255) (hg : good v) (hg2 : good u) (h : VR w v A c) (h2 : VR w u A2 c2) (hT : Tbi w) :
    Calls Tryd.prog 4 #[.agg #[.int .i64 v.f0, .int .i64 v.f1, .slice A v.f2.length c], .agg #[.int .i64 u.f0, .int .i64 u.f1, .slice A2 u.f2.length c2], .int .u8 a] w fun e w' => e = .returned (.bool true) ∧ Below w.heap.size w w' := by
  obtain ⟨ha0, ha1⟩ := ha
  have HH := Lib.hid h
  have HTT := Lib.hid hT
  have hF0 := boxV2 h h2
  have hF : ∀ W, Below ((w.alloc (.cells #[.int .i64 v.f0, .int .i64 v.f1, .slice A v.f2.length c] 24)).alloc (.cells #[.int .i64 u.f0, .int .i64 u.f1, .slice A2 u.f2.length c2] 24)).heap.size ((w.alloc (.cells #[.int .i64 v.f0, .int .i64 v.f1, .slice A v.f2.length c] 24)).alloc (.cells #[.int .i64 u.f0, .int .i64 u.f1, .slice A2 u.f2.length c2] 24)) W → (W.cell? ⟨w.heap.size, 0, none⟩ = some (.int .i64 v.f0) ∧ W.cell? ⟨w.heap.size, 1, none⟩ = some (.int .i64 v.f1) ∧ W.cell? ⟨w.heap.size, 2, none⟩ = some (.slice A v.f2.length c)) ∧ (W.cell? ⟨w.heap.size + 1, 0, none⟩ = some (.int .i64 u.f0) ∧ W.cell? ⟨w.heap.size + 1, 1, none⟩ = some (.int .i64 u.f1) ∧ W.cell? ⟨w.heap.size + 1, 2, none⟩ = some (.slice A2 u.f2.length c2)) ∧ VR W v A c ∧ VR W u A2 c2 ∧ Below w.heap.size w W ∧ Tbi W := fun W hW => by
    obtain ⟨a, b, cc, d, e⟩ := hF0 W hW
    exact ⟨a, b, cc, d, e, hT.below e⟩
  obtain ⟨W0, hW0⟩ : ∃ W0, W0 = ((w.alloc (.cells #[.int .i64 v.f0, .int .i64 v.f1, .slice A v.f2.length c] 24)).alloc (.cells #[.int .i64 u.f0, .int .i64 u.f1, .slice A2 u.f2.length c2] 24)) := ⟨_, rfl⟩
  rw [← hW0] at hF
  have HW0 : Hid (Below W0.heap.size W0 ((w.alloc (.cells #[.int .i64 v.f0, .int .i64 v.f1, .slice A v.f2.length c] 24)).alloc (.cells #[.int .i64 u.f0, .int .i64 u.f1, .slice A2 u.f2.length c2] 24))) := Lib.hid (by rw [← hW0]; exact Below.refl _ _)
  have HBL0 := Lib.hid (show W0.heap[w.heap.size]? = some (.cells #[.int .i64 v.f0, .int .i64 v.f1, .slice A v.f2.length c] 24 (0, 0)) by rw [hW0]; exact blk_alloc (blk_new w _) _)
  have HSZB := Lib.hid (show w.heap.size + 2 ≤ W0.heap.size by rw [hW0, alloc_size, alloc_size]; omega)
  clear hW0 hF0
  have HF := Lib.hid hF
  have HG := Lib.hid hg
  have HG2 := Lib.hid hg2
  have HAW := Lib.hid (show ∀ W, Below W0.heap.size W0 W → Calls Tryd.prog 5 #[] W fun e w' => e = .returned (.bool true) ∧ Below W0.heap.size W0 w' ∧ Below w.heap.size w w' from fun W hW => by
    refine (awake_calls W (HF.out W hW).2.2.2.2.2).mono ?_
    rintro e w' ⟨he, hb⟩
    exact ⟨he, below_step hW hb, (HF.out _ (below_step hW hb)).2.2.2.2.1⟩)
  obtain ⟨t, ht⟩ : ∃ t, decide (size v ≤ 2000) = t := ⟨_, rfl⟩
  obtain ⟨t2, ht2⟩ : ∃ t, decide (size u ≤ 2000) = t := ⟨_, rfl⟩
  have HS1 := Lib.hid (show ∀ W, Below W0.heap.size W0 W → Calls Tryd.prog 6 #[.agg #[.int .i64 v.f0, .int .i64 v.f1, .slice A v.f2.length c]] W fun e w' => e = .returned (.bool t) ∧ Below W0.heap.size W0 w' from fun W hW => by
    refine (small_calls v A c W (HF.out W hW).2.2.1 t ht).mono ?_
    rintro e w' ⟨he, hb⟩
    exact ⟨he, below_step hW hb⟩)
  have HS2 := Lib.hid (show ∀ W, Below W0.heap.size W0 W → Calls Tryd.prog 6 #[.agg #[.int .i64 u.f0, .int .i64 u.f1, .slice A2 u.f2.length c2]] W fun e w' => e = .returned (.bool t2) ∧ Below W0.heap.size W0 w' from fun W hW => by
    refine (small_calls u A2 c2 W (HF.out W hW).2.2.2.1 t2 ht2).mono ?_
    rintro e w' ⟨he, hb⟩
    exact ⟨he, below_step hW hb⟩)
  obtain ⟨⟨x0, x1, x2⟩, ⟨y0, y1, y2⟩, _, _, _, _⟩ := hF _ HW0.out
  clear hF h h2 hT hg hg2 ht ht2
  go_enter Tryd.func4, Tryd.ntmps4
  go_wp2_with fail
  refine (HAW.out _ HW0.out).mono ?_
  rintro e w1 ⟨rfl, hb1, _⟩
  clear x0 x1 x2 y0 y1 y2
  obtain ⟨⟨x0, x1, x2⟩, ⟨y0, y1, y2⟩, _, _, _, _⟩ := HF.out _ hb1
  go_wp2_with fail
  refine (HS1.out _ hb1).mono ?_
  rintro e w2 ⟨rfl, hb2⟩
  clear x0 x1 x2 y0 y1 y2 hb1
  obtain ⟨⟨x0, x1, x2⟩, ⟨y0, y1, y2⟩, _, _, _, _⟩ := HF.out _ hb2
  cases t with
  | false =>
    go_wp2_with (go_at_call 5; refine (HAW.out _ hb2).mono ?_; rintro e w3 ⟨rfl, _, hb3⟩)
    go_ret
    exact ⟨rfl, hb3⟩
  | true =>
    go_wp2_with fail
    refine (HS2.out _ hb2).mono ?_
    rintro e w3 ⟨rfl, hb3⟩
    clear x0 x1 x2 y0 y1 y2 hb2
    obtain ⟨⟨x0, x1, x2⟩, ⟨y0, y1, y2⟩, hv, hu, hbw, htb⟩ := HF.out _ hb3
    cases t2 with
    | false =>
      clear hv hu hbw htb
      go_wp2_with (go_at_call 5; refine (HAW.out _ hb3).mono ?_; rintro e w4 ⟨rfl, _, hb4⟩)
      go_ret
      exact ⟨rfl, hb4⟩
    | true =>
      obtain ⟨q, hq⟩ : ∃ q, q = eqB v u := ⟨_, rfl⟩
      have KS := Lib.hid (show ∀ W, Below W0.heap.size W0 W → Calls Tryd.prog 9 #[.agg #[.int .i64 v.f0, .int .i64 v.f1, .slice A v.f2.length c], .agg #[.int .i64 u.f0, .int .i64 u.f1, .slice A2 u.f2.length c2]] W fun e w' => e = .returned (.bool q) ∧ Below W0.heap.size W0 w' ∧ (w'.cell? ⟨w.heap.size, 0, none⟩ = some (.int .i64 v.f0) ∧ w'.cell? ⟨w.heap.size, 1, none⟩ = some (.int .i64 v.f1) ∧ w'.cell? ⟨w.heap.size, 2, none⟩ = some (.slice A v.f2.length c)) ∧ (w'.cell? ⟨w.heap.size + 1, 0, none⟩ = some (.int .i64 u.f0) ∧ w'.cell? ⟨w.heap.size + 1, 1, none⟩ = some (.int .i64 u.f1) ∧ w'.cell? ⟨w.heap.size + 1, 2, none⟩ = some (.slice A2 u.f2.length c2)) from fun W hW => by
        obtain ⟨_, _, hv, hu, _, _⟩ := HF.out W hW
        refine (same_calls v u A A2 c c2 W hv hu).mono ?_
        rintro e w' ⟨he, hb⟩
        obtain ⟨k1, k2, _⟩ := HF.out _ (below_step hW hb)
        exact ⟨by rw [he, hq], below_step hW hb, k1, k2⟩)
      have KR := Lib.hid (show ∀ W, Below W0.heap.size W0 W → Calls Tryd.prog 8 #[.agg #[.int .i64 v.f0, .int .i64 v.f1, .slice A v.f2.length c], .agg #[.int .i64 u.f0, .int .i64 u.f1, .slice A2 u.f2.length c2]] W fun e w' => e = .returned (.bool q) ∧ Below W0.heap.size W0 w' ∧ (w'.cell? ⟨w.heap.size, 0, none⟩ = some (.int .i64 v.f0) ∧ w'.cell? ⟨w.heap.size, 1, none⟩ = some (.int .i64 v.f1) ∧ w'.cell? ⟨w.heap.size, 2, none⟩ = some (.slice A v.f2.length c)) ∧ (w'.cell? ⟨w.heap.size + 1, 0, none⟩ = some (.int .i64 u.f0) ∧ w'.cell? ⟨w.heap.size + 1, 1, none⟩ = some (.int .i64 u.f1) ∧ w'.cell? ⟨w.heap.size + 1, 2, none⟩ = some (.slice A2 u.f2.length c2)) from fun W hW => by
        obtain ⟨_, _, hv, hu, _, _⟩ := HF.out W hW
        refine (refsame_calls v u A A2 c c2 W hv hu).mono ?_
        rintro e w' ⟨he, hb⟩
        obtain ⟨k1, k2, _⟩ := HF.out _ (below_step hW hb)
        exact ⟨by rw [he, hq], below_step hW hb, k1, k2⟩)
      have q1 : (q != q) = false := by simp
      clear hv hu hbw htb hq
      go_wp2_with fail
      go_region_held3 (fun w' => (w'.cell? ⟨w.heap.size, 0, none⟩ = some (.int .i64 v.f0) ∧ w'.cell? ⟨w.heap.size, 1, none⟩ = some (.int .i64 v.f1) ∧ w'.cell? ⟨w.heap.size, 2, none⟩ = some (.slice A v.f2.length c)) ∧ (w'.cell? ⟨w.heap.size + 1, 0, none⟩ = some (.int .i64 u.f0) ∧ w'.cell? ⟨w.heap.size + 1, 1, none⟩ = some (.int .i64 u.f1) ∧ w'.cell? ⟨w.heap.size + 1, 2, none⟩ = some (.slice A2 u.f2.length c2)))
        (first | go_keep | exact ⟨⟨s0, s1, s2⟩, ⟨s3, s4, s5⟩⟩)
        (first | (go_at_call 9; refine (KS.out _ (by first | assumption | exact Below.drew (by assumption))).mono ?_; rintro e wa ⟨rfl, hba, ⟨s0, s1, s2⟩, ⟨s3, s4, s5⟩⟩) | (go_at_call 8; refine (KR.out _ (by first | assumption | exact Below.drew (by assumption))).mono ?_; rintro e wa ⟨rfl, hba, ⟨s0, s1, s2⟩, ⟨s3, s4, s5⟩⟩))
      have HBA := Lib.hid hba
      have hBT := (HF.out _ hba).2.2.2.2.1
      have HBW0 := Lib.hid hBT
      have HPV0 : Hid (PV w v A c wa) := Lib.hid (fun W hb _ => HH.out.below hb)
      have HBX0 : Hid (wa.heap[w.heap.size]? = some (.cells #[.int .i64 v.f0, .int .i64 v.f1, .slice A v.f2.length c] 24 (0, 0))) := Lib.hid (blk_below (HBL0.out) hba)
      have HSZ0 := Lib.hid (show w.heap.size + 2 ≤ wa.heap.size from Nat.le_trans HSZB.out hba.size)
      obtain ⟨n, hn⟩ := Int.eq_ofNat_of_zero_le (show 0 ≤ a % 12 by omega)
      have hn12 : n ≤ 12 := by omega
      clear hba hBT hb3 x0 x1 x2 y0 y1 y2 s0 s1 s2 s3 s4 s5
      go_wp2_with fail
      go_loopg [7] (n) (fun g i wx => ∃ k : Nat, i = .int .i64 k ∧ k ≤ n ∧ g = n - k ∧ ∃ (v' : V) (A' : Option Addr) (c' : Nat), Hid (good v') ∧ Hid (PV w v' A' c' wx) ∧ Hid (wx.heap[w.heap.size]? = some (.cells #[.int .i64 v'.f0, .int .i64 v'.f1, .slice A' v'.f2.length c'] 24 (0, 0))) ∧ Hid (Below w.heap.size w wx) ∧ Hid (w.heap.size + 2 ≤ wx.heap.size))
      case atStart => exact ⟨0, rfl, Nat.zero_le _, rfl, v, A, c, HG, HPV0, HBX0, HBW0, HSZ0⟩
      case round =>
        obtain ⟨k, rfl, hk, rfl, v', A', c', HG3, hpv, hbx, hbw, hsz⟩ := hrel
        have x0 : wr.cell? ⟨w.heap.size, 0, none⟩ = some (.int .i64 v'.f0) := (blk_cell hbx.out 0).trans rfl
        have x1 : wr.cell? ⟨w.heap.size, 1, none⟩ = some (.int .i64 v'.f1) := (blk_cell hbx.out 1).trans rfl
        have x2 : wr.cell? ⟨w.heap.size, 2, none⟩ = some (.slice A' v'.f2.length c') := (blk_cell hbx.out 2).trans rfl
        by_cases hlt : k < n
        · have f0 := blk_frozen hbx.out 0
          have f1 := blk_frozen hbx.out 1
          have f2 := blk_frozen hbx.out 2
          have hl2 : w.heap.size < wr.heap.size := by have := hsz.out; omega
          go_wp2
          obtain ⟨g1, g2, g3, g4⟩ := pair_step hpv.out hbx.out hbw.out hsz.out rfl
          go_roundg (n - (k + 1))
          case measure => omega
          case rel => exact ⟨k + 1, by go_num, by omega, rfl, pairV v', _, _, Lib.hid (pair_good HG3.out), Lib.hid g1, Lib.hid g2, Lib.hid g3, Lib.hid g4⟩
        · obtain rfl : k = n := by omega
          have hvr : VR wr v' A' c' := hpv.out wr hbw.out (fun _ _ _ => rfl)
          have HX := Lib.hid (Text_calls v' A' c' wr HG3.out hvr (HTT.out.below hbw.out))
          have HVR := Lib.hid hvr
          clear hvr
          go_wp2_with fail
          refine HX.out.mono ?_
          rintro e wy ⟨hp, hb4⟩
          have HB4 := Lib.hid (below_step hbw.out hb4)
          have HBY := Lib.hid (blk_below hbx.out hb4)
          have hvy := HVR.out.below hb4
          have HVY := Lib.hid hvy
          clear x0 x1 x2
          have x0 : wy.cell? ⟨w.heap.size, 0, none⟩ = some (.int .i64 v'.f0) := (blk_cell HBY.out 0).trans rfl
          have x1 : wy.cell? ⟨w.heap.size, 1, none⟩ = some (.int .i64 v'.f1) := (blk_cell HBY.out 1).trans rfl
          have x2 : wy.cell? ⟨w.heap.size, 2, none⟩ = some (.slice A' v'.f2.length c') := (blk_cell HBY.out 2).trans rfl
          have HX2 := Lib.hid (refText_calls v' A' c' wy HG3.out hvy)
          obtain ⟨sv, ev, hse⟩ : ∃ (sv : ByteArray) (ev : Int), e = .returned (.tuple #[.string sv, .int .i64 ev]) ∧ ∀ e2 w2, TextPost v' wy e2 w2 → e2 = .returned (.tuple #[.string sv, .int .i64 ev]) ∧ Below wy.heap.size wy w2 := by
            rcases hp with ⟨hf, he⟩ | ⟨hf, he⟩
            · exact ⟨_, _, he, fun e2 w2 h => by
                rcases h with ⟨⟨hf2, he2⟩ | ⟨hf2, he2⟩, hb⟩
                · exact ⟨he2, hb⟩
                · rw [hf] at hf2; cases hf2⟩
            · exact ⟨_, _, he, fun e2 w2 h => by
                rcases h with ⟨⟨hf2, he2⟩ | ⟨hf2, he2⟩, hb⟩
                · rw [hf] at hf2; cases hf2
                · exact ⟨he2, hb⟩⟩
          obtain ⟨rfl, hse⟩ := hse
          have HSE := Lib.hid hse
          clear hse hp hvy hb4
          go_wp2_with fail
          refine HX2.out.mono ?_
          rintro e wz hp
          obtain ⟨rfl, hb5⟩ := HSE.out _ _ hp
          have HB5 := Lib.hid (below_step HB4.out hb5)
          have HBZ := Lib.hid (blk_below HBY.out hb5)
          have hvz := HVY.out.below hb5
          obtain ⟨fv, hfv⟩ : ∃ f, formedV v' = f := ⟨_, rfl⟩
          obtain ⟨nv, hnv⟩ : ∃ f : Int, (nodesN v' : Int) = f := ⟨_, rfl⟩
          clear x0 x1 x2
          have x0 : wz.cell? ⟨w.heap.size, 0, none⟩ = some (.int .i64 v'.f0) := (blk_cell HBZ.out 0).trans rfl
          have x1 : wz.cell? ⟨w.heap.size, 1, none⟩ = some (.int .i64 v'.f1) := (blk_cell HBZ.out 1).trans rfl
          have x2 : wz.cell? ⟨w.heap.size, 2, none⟩ = some (.slice A' v'.f2.length c') := (blk_cell HBZ.out 2).trans rfl
          have hb0 := Below.refl wz.heap.size wz
          have K0 := Lib.hid (show ∀ W, Below wz.heap.size wz W → Calls Tryd.prog 11 #[.agg #[.int .i64 v'.f0, .int .i64 v'.f1, .slice A' v'.f2.length c']] W fun e w' => e = .returned (.bool fv) ∧ Below wz.heap.size wz w' ∧ w'.cell? ⟨w.heap.size, 0, none⟩ = some (.int .i64 v'.f0) ∧ w'.cell? ⟨w.heap.size, 1, none⟩ = some (.int .i64 v'.f1) ∧ w'.cell? ⟨w.heap.size, 2, none⟩ = some (.slice A' v'.f2.length c') from fun W hW => by
            refine (formed_calls v' A' c' W HG3.out (hvz.below hW)).mono ?_
            rintro e w' ⟨he, hb⟩
            have bk := blk_below HBZ.out (below_step hW hb)
            exact ⟨by rw [he, hfv], below_step hW hb, (blk_cell bk 0).trans rfl, (blk_cell bk 1).trans rfl, (blk_cell bk 2).trans rfl⟩)
          have K1 := Lib.hid (show ∀ W, Below wz.heap.size wz W → Calls Tryd.prog 12 #[.agg #[.int .i64 v'.f0, .int .i64 v'.f1, .slice A' v'.f2.length c']] W fun e w' => e = .returned (.bool fv) ∧ Below wz.heap.size wz w' ∧ w'.cell? ⟨w.heap.size, 0, none⟩ = some (.int .i64 v'.f0) ∧ w'.cell? ⟨w.heap.size, 1, none⟩ = some (.int .i64 v'.f1) ∧ w'.cell? ⟨w.heap.size, 2, none⟩ = some (.slice A' v'.f2.length c') from fun W hW => by
            refine (refformed_calls v' A' c' W HG3.out (hvz.below hW)).mono ?_
            rintro e w' ⟨he, hb⟩
            have bk := blk_below HBZ.out (below_step hW hb)
            exact ⟨by rw [he, hfv], below_step hW hb, (blk_cell bk 0).trans rfl, (blk_cell bk 1).trans rfl, (blk_cell bk 2).trans rfl⟩)
          have K2 := Lib.hid (show ∀ W, Below wz.heap.size wz W → Calls Tryd.prog 13 #[.agg #[.int .i64 v'.f0, .int .i64 v'.f1, .slice A' v'.f2.length c']] W fun e w' => e = .returned (.int .i64 nv) ∧ Below wz.heap.size wz w' ∧ w'.cell? ⟨w.heap.size, 0, none⟩ = some (.int .i64 v'.f0) ∧ w'.cell? ⟨w.heap.size, 1, none⟩ = some (.int .i64 v'.f1) ∧ w'.cell? ⟨w.heap.size, 2, none⟩ = some (.slice A' v'.f2.length c') from fun W hW => by
            refine (nodes_calls v' A' c' W (hvz.below hW)).mono ?_
            rintro e w' ⟨he, hb⟩
            have bk := blk_below HBZ.out (below_step hW hb)
            exact ⟨by rw [he, hnv], below_step hW hb, (blk_cell bk 0).trans rfl, (blk_cell bk 1).trans rfl, (blk_cell bk 2).trans rfl⟩)
          have K3 := Lib.hid (show ∀ W, Below wz.heap.size wz W → Calls Tryd.prog 14 #[.agg #[.int .i64 v'.f0, .int .i64 v'.f1, .slice A' v'.f2.length c']] W fun e w' => e = .returned (.int .i64 nv) ∧ Below wz.heap.size wz w' ∧ w'.cell? ⟨w.heap.size, 0, none⟩ = some (.int .i64 v'.f0) ∧ w'.cell? ⟨w.heap.size, 1, none⟩ = some (.int .i64 v'.f1) ∧ w'.cell? ⟨w.heap.size, 2, none⟩ = some (.slice A' v'.f2.length c') from fun W hW => by
            refine (refnodes_calls v' A' c' W (hvz.below hW)).mono ?_
            rintro e w' ⟨he, hb⟩
            have bk := blk_below HBZ.out (below_step hW hb)
            exact ⟨by rw [he, hnv], below_step hW hb, (blk_cell bk 0).trans rfl, (blk_cell bk 1).trans rfl, (blk_cell bk 2).trans rfl⟩)
          have s9 : (sv.toList == sv.toList) = true := by simp
          have e9 : (ev == ev) = true := by simp
          have r9 : (fv == fv) = true := by simp
          have t9 : (nv == nv) = true := by simp
          clear hp hb5 hvz hfv hnv
          go_wp2_with fail
          go_region_held3 (fun w' => w'.cell? ⟨w.heap.size, 0, none⟩ = some (.int .i64 v'.f0) ∧ w'.cell? ⟨w.heap.size, 1, none⟩ = some (.int .i64 v'.f1) ∧ w'.cell? ⟨w.heap.size, 2, none⟩ = some (.slice A' v'.f2.length c'))
            (first | go_keep | exact ⟨s0, s1, s2⟩)
            (first | (go_at_call 11; refine (K0.out _ (by first | assumption | exact Below.drew (by assumption))).mono ?_; rintro e wa ⟨rfl, hba, s0, s1, s2⟩) | (go_at_call 12; refine (K1.out _ (by first | assumption | exact Below.drew (by assumption))).mono ?_; rintro e wa ⟨rfl, hba, s0, s1, s2⟩) | (go_at_call 13; refine (K2.out _ (by first | assumption | exact Below.drew (by assumption))).mono ?_; rintro e wa ⟨rfl, hba, s0, s1, s2⟩) | (go_at_call 14; refine (K3.out _ (by first | assumption | exact Below.drew (by assumption))).mono ?_; rintro e wa ⟨rfl, hba, s0, s1, s2⟩))
          have HBQ := Lib.hid (below_step HB5.out hba)
          clear hba hb0
          go_wp2
          go_ret
          exact ⟨rfl, HBQ.out⟩
end Go.Proofs.YtcikgloiojglpaaDoor.Val
