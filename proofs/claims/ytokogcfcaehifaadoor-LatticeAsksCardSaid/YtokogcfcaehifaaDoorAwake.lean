/- palisadelaw01.awake answers true; palisaderef01.Small at every lattice. Condition: the two tables of unicode/utf8 are laid. -/
import Derived.Test.YtokogcfcaehifaaDoorAwakeSpec
import Derived.Test.YtokogcfcaehifaaDoorMake
namespace Go.Proofs.YtokogcfcaehifaaDoor.Awake
set_option linter.unusedVariables false
open Go.RowKit Go.Proofs.YtokogcfcaehifaaDoorW.PrintWords Go.Proofs.YtokogcfcaehifaaDoor.Aux Go.Proofs.YtokogcfcaehifaaDoor.LatSpec Go.Proofs.YtokogcfcaehifaaDoor.LatWalk Go.Proofs.YtokogcfcaehifaaDoor.LatF Go.Proofs.YtokogcfcaehifaaDoor.LatLeq Go.Proofs.YtokogcfcaehifaaDoor.LatJoin Go.Proofs.YtokogcfcaehifaaDoor.MakeSpec Go.Proofs.YtokogcfcaehifaaDoor.Mat Go.Proofs.YtokogcfcaehifaaDoor.MakeW Go.Proofs.YtokogcfcaehifaaDoor.AwakeSpec
theorem C_twoS {W : World} {g : Nat} {a b : ByteArray} {t : TypeId} (h : W.heap[g]? = some (.cells #[.string a, .string b] t (0, 0))) : Kd.string.C W (some ⟨g, 0, none⟩) 2 [a, b] := by
  refine ⟨rfl, by omega, fun _ => ⟨_, rfl, fun j p hj => ?_⟩⟩
  match j, hj with
  | 0, hj =>
    obtain rfl : a = p := by simpa using hj
    exact ⟨_, rfl, rfl, fun i u hu => by
      match i, hu with
      | 0, hu => obtain rfl : Value.string a = u := by simpa [Kd.string, Kd.scalar] using hu
                 exact (blk_cell h 0).trans rfl⟩
  | 1, hj =>
    obtain rfl : b = p := by simpa using hj
    exact ⟨_, rfl, rfl, fun i u hu => by
      match i, hu with
      | 0, hu => obtain rfl : Value.string b = u := by simpa [Kd.string, Kd.scalar] using hu
                 exact (blk_cell h 1).trans rfl⟩
theorem C_oneP {W : World} {g : Nat} {a b : Int} {t : TypeId} (h : W.heap[g]? = some (.cells #[.int .i64 a, .int .i64 b] t (0, 0))) : (Kd.pair (Kd.int .i64) (Kd.int .i64)).C W (some ⟨g, 0, none⟩) 1 [(a, b)] := by
  refine ⟨rfl, by omega, fun _ => ⟨_, rfl, fun j p hj => ?_⟩⟩
  match j, hj with
  | 0, hj =>
    obtain rfl : (a, b) = p := by simpa using hj
    refine ⟨[.int .i64 a, .int .i64 b], rfl, ⟨[.int .i64 a], [.int .i64 b], rfl, rfl, rfl⟩, fun i u hu => ?_⟩
    match i, hu with
    | 0, hu => obtain rfl : Value.int .i64 a = u := by simpa using hu
               exact (blk_cell h 0).trans rfl
    | 1, hu => obtain rfl : Value.int .i64 b = u := by simpa using hu
               rw [add_plain]
               exact (blk_cell h 1).trans rfl
set_option maxRecDepth 100000 in
set_option maxHeartbeats 1600000 in
theorem awake_calls (w : World) (hT : Tb w) :
    Calls Tryd.prog 9 #[] w fun e w' => e = .returned (.bool true) ∧ Below w.heap.size w w' := by
  have hb1 := below_alloc (Below.refl w.heap.size w) (.cells #[.string low, .string high] 9)
  have hb2 := below_alloc hb1 (.cells #[.int .i64 0, .int .i64 1] 37)
  have hn := blk_below (blk_new w (.cells #[.string low, .string high] 9)) (below_alloc (Below.refl _ _) (.cells #[.int .i64 0, .int .i64 1] 37))
  have hp := blk_new (w.alloc (.cells #[.string low, .string high] 9)) (.cells #[.int .i64 0, .int .i64 1] 37)
  rw [alloc_size] at hp
  have hmk := make_calls [low, high] pairsA _ _ 2 1 _ (C_twoS hn) (C_oneP hp) nsA (hT.below hb2)
  have HMK := Lib.hid hmk
  have HB2 := Lib.hid hb2
  have HT := Lib.hid hT
  clear hb1 hb2 hn hp hmk hT
  unfold low high at HMK HB2
  go_enter Tryd.func9, Tryd.ntmps9
  go_wp2_with fail
  refine HMK.out.mono ?_
  rintro e w1 ⟨l, err, A, c, B, d, rfl, hLR, hsaid, hb3⟩
  obtain ⟨hl, rfl⟩ := saidA hsaid
  have hns : Ns l := by rw [hl]; exact nsA
  have e1 : leqB l 0 1 = true := by rw [hl]; exact leqA01
  have e2 : leqB l 1 0 = false := by rw [hl]; exact leqA10
  have e3 : topI l = 1 := by rw [hl]; exact topA
  have hbw := below_step HB2.out hb3
  have hF := boxed (n := l.names.length) (m := l.order.length) hLR (HT.out.below hbw)
  obtain ⟨c0, c1, hl1, hbw1, htb1⟩ := hF _ (Below.refl _ _)
  have k1 := leq_calls l A B c d 0 1 _ hl1 hns htb1
  rw [e1] at k1
  have HF := Lib.hid hF
  have HNS := Lib.hid hns
  have HBW := Lib.hid hbw
  have K1 := Lib.hid k1
  have E2 := Lib.hid e2
  have E3 := Lib.hid e3
  clear hF hns hbw k1 e1 e2 e3 hl hsaid hb3 hLR hl1 hbw1 htb1
  go_wp2_with fail
  refine K1.out.mono ?_
  rintro e w2 ⟨rfl, hb4⟩
  have HB4 := Lib.hid hb4
  clear c0 c1
  obtain ⟨c0, c1, hl2, hbw2, htb2⟩ := HF.out _ hb4
  have k2 := leq_calls l A B c d 1 0 _ hl2 HNS.out htb2
  rw [E2.out] at k2
  have K2 := Lib.hid k2
  clear k2 hl2 hbw2 htb2 hb4
  go_wp2_with fail
  refine K2.out.mono ?_
  rintro e w3 ⟨rfl, hb5⟩
  have HB5 := Lib.hid (below_step HB4.out hb5)
  clear c0 c1 hb5
  obtain ⟨c0, c1, hl3, hbw3, htb3⟩ := HF.out _ HB5.out
  have k3 := top_calls l A B c d _ hl3 HNS.out htb3
  rw [E3.out] at k3
  have K3 := Lib.hid k3
  have HBW3 := Lib.hid (below_step HBW.out hbw3)
  clear k3 hl3 hbw3 htb3
  go_wp2_with (go_at_call 22; refine K3.out.mono ?_; rintro e w4 ⟨rfl, hb6⟩)
  go_ret
  exact ⟨rfl, below_step HBW3.out hb6⟩
def smallB (l : Lat) : Bool := l.order.all (fun r => decide (r.length ≤ 100)) && decide (l.order.length ≤ 100) && decide (l.names.length ≤ 100)
theorem small_bad {l : Lat} {k : Nat} (hk : k < l.order.length) (h : 100 ≤ k ∨ 100 < (l.order.getD k []).length) : smallB l = false := by
  rcases h with h | h
  · have : decide (l.order.length ≤ 100) = false := by simp; omega
    simp [smallB, this]
  · have : l.order.all (fun r => decide (r.length ≤ 100)) = false := by
      rw [List.all_eq_false]
      refine ⟨l.order.getD k [], ?_, by rw [decide_eq_true_eq]; omega⟩
      rw [List.getD_eq_getElem?_getD, List.getElem?_eq_getElem hk]
      exact List.getElem_mem hk
    simp [smallB, this]
theorem small_end {l : Lat} (h : ∀ k, k < l.order.length → k < 100 ∧ (l.order.getD k []).length ≤ 100) : smallB l = decide (l.names.length ≤ 100) := by
  have h1 : l.order.all (fun r => decide (r.length ≤ 100)) = true := by
    rw [List.all_eq_true]
    intro r hr
    obtain ⟨j, hj, rfl⟩ := List.getElem_of_mem hr
    have := (h j hj).2
    rw [List.getD_eq_getElem?_getD, List.getElem?_eq_getElem hj] at this
    simpa using this
  have h2 : l.order.length ≤ 100 := by
    rcases Nat.eq_zero_or_pos l.order.length with h0 | h0
    · omega
    · have := (h (l.order.length - 1) (by omega)).1
      omega
  simp [smallB, h1, h2]
set_option maxRecDepth 100000 in
set_option maxHeartbeats 1600000 in
theorem small_calls (l : Lat) (A B : Option Addr) (c d : Nat) (w : World) (h : LR w l A c B d) :
    Calls Tryd.prog 10 #[.agg #[.slice A l.names.length c, .slice B l.order.length d]] w fun e w' => e = .returned (.bool (smallB l)) ∧ Below w.heap.size w w' := by
  have hb1 := below_alloc (Below.refl w.heap.size w) (.cells #[.slice A l.names.length c, .slice B l.order.length d] 25)
  have hl := h.below hb1
  have HB1 := Lib.hid hb1
  have HL := Lib.hid hl
  have hmn := (C_len h.2.2.1).2
  have hmo := (C_len h.2.2.2).2
  clear hb1 hl h
  go_enter Tryd.func10, Tryd.ntmps10
  go_wp2_with fail
  go_loopg [3] (l.order.length) (fun g i wx => ∃ k : Nat, i = .int .i64 k ∧ k ≤ l.order.length ∧ g = l.order.length - k ∧ (w.alloc (.cells #[.slice A l.names.length c, .slice B l.order.length d] 25)) = wx ∧ Hid (∀ j, j < k → j < 100 ∧ (l.order.getD j []).length ≤ 100))
  case atStart => exact ⟨0, rfl, Nat.zero_le _, rfl, rfl, Lib.hid (fun j hj => absurd hj (by omega))⟩
  case round =>
    obtain ⟨k, rfl, hk, rfl, rfl, hall⟩ := hrel
    by_cases hlt : k < l.order.length
    · obtain ⟨ad, A', c', e1, hcell, hcc, hC⟩ := C_slice_get HL.out.2.2.2 hlt
      subst e1
      have hmr := (C_len hC).2
      obtain ⟨m, hm⟩ : ∃ m, m = (l.order.getD k []).length := ⟨_, rfl⟩
      rw [← hm] at hcell hcc hmr
      have HM := Lib.hid hm
      clear hC hm
      by_cases h1 : 100 ≤ k
      · have hres : smallB l = false := small_bad hlt (.inl h1)
        have HRES := Lib.hid hres
        clear hres
        go_wp2
        go_ret
        exact ⟨ret_bool HRES.out.symm, HB1.out⟩
      · by_cases h2 : 100 < m
        · have hres : smallB l = false := small_bad hlt (.inr (by rw [← HM.out]; exact h2))
          have HRES := Lib.hid hres
          clear hres
          go_wp2
          go_ret
          exact ⟨ret_bool HRES.out.symm, HB1.out⟩
        · have hall2 : ∀ j, j < k + 1 → j < 100 ∧ (l.order.getD j []).length ≤ 100 := fun j hj => by
            rcases Nat.lt_or_ge j k with h | h
            · exact hall.out j h
            · obtain rfl : j = k := by omega
              exact ⟨by omega, by rw [← HM.out]; omega⟩
          have HALL := Lib.hid hall2
          clear hall2
          go_wp2
          go_roundg (l.order.length - (k + 1))
          case measure => omega
          case rel => exact ⟨k + 1, by go_num, by omega, rfl, rfl, HALL⟩
    · obtain rfl : k = l.order.length := by omega
      have hres := small_end hall.out
      have HRES := Lib.hid hres
      clear hres
      go_wp2
      go_ret
      refine ⟨ret_bool ?_, HB1.out⟩
      rw [HRES.out]
      simp
      omega
end Go.Proofs.YtokogcfcaehifaaDoor.Awake
