/- The law palisadelaw01.LatticeLaws answers true at every lattice. Condition: the two tables of unicode/utf8 are laid. -/
import Derived.Test.YtokogcfcaehifaaDoorAwake
import Derived.Test.YtokogcfcaehifaaDoorLatLaws
import Derived.Deep.RegionHeld3
import Derived.BigRegion
namespace Go.Proofs.YtokogcfcaehifaaDoor.LawLaws
set_option linter.unusedVariables false
open Go.RowKit Go.Proofs.YtokogcfcaehifaaDoorW.PrintWords Go.Proofs.YtokogcfcaehifaaDoor.Aux Go.Proofs.YtokogcfcaehifaaDoor.LatSpec Go.Proofs.YtokogcfcaehifaaDoor.LatWalk Go.Proofs.YtokogcfcaehifaaDoor.LatF Go.Proofs.YtokogcfcaehifaaDoor.LatLeq Go.Proofs.YtokogcfcaehifaaDoor.LatJoin Go.Proofs.YtokogcfcaehifaaDoor.MakeSpec Go.Proofs.YtokogcfcaehifaaDoor.Mat Go.Proofs.YtokogcfcaehifaaDoor.MakeW Go.Proofs.YtokogcfcaehifaaDoor.AwakeSpec Go.Proofs.YtokogcfcaehifaaDoor.Awake Go.Proofs.YtokogcfcaehifaaDoor.Bottom Go.Proofs.YtokogcfcaehifaaDoor.LatLaws
set_option maxRecDepth 100000 in
set_option maxHeartbeats 3200000 in
theorem law_calls (l : Lat) (A B : Option Addr) (c d : Nat) (w : World) (h : LR w l A c B d) (hs : Ns l) (hT : Tb w) :
    Calls Tryd.prog 6 #[.agg #[.slice A l.names.length c, .slice B l.order.length d]] w fun e w' => e = .returned (.bool true) ∧ Below w.heap.size w w' := by
  have hF := boxed (n := l.names.length) (m := l.order.length) h hT
  obtain ⟨c0, c1, hl, hbw, htb⟩ := hF _ (Below.refl _ _)
  have ha := awake_calls _ htb
  have HF := Lib.hid hF
  have HBW := Lib.hid hbw
  have HA := Lib.hid ha
  have HNS := Lib.hid hs
  have hmn := (C_len h.2.2.1).2
  clear hF hl hbw htb ha h hs hT
  obtain ⟨t, ht⟩ : ∃ t, t = smallB l := ⟨_, rfl⟩
  have HT := Lib.hid ht
  clear ht
  go_enter Tryd.func6, Tryd.ntmps6
  go_wp2_with fail
  refine HA.out.mono ?_
  rintro e w1 ⟨rfl, hb1⟩
  clear c0 c1
  obtain ⟨c0, c1, hl, hbw, htb⟩ := HF.out _ hb1
  have hsm := small_calls l A B c d _ hl
  rw [← HT.out] at hsm
  have HSM := Lib.hid hsm
  have HB1 := Lib.hid hb1
  clear hsm hl hbw htb hb1
  go_wp2_with fail
  refine HSM.out.mono ?_
  rintro e w2 ⟨rfl, hb2⟩
  have HB2 := Lib.hid (below_step HB1.out hb2)
  clear c0 c1 hb2
  obtain ⟨c0, c1, hl, hbw, htb⟩ := HF.out _ HB2.out
  have ha2 := awake_calls _ htb
  have HA2 := Lib.hid ha2
  have HBW2 := Lib.hid hbw
  have hfc := formed_c l A B c d _ hl HNS.out htb
  obtain ⟨fm, hfm⟩ : ∃ t, t = formedB l := ⟨_, rfl⟩
  rw [← hfm] at hfc
  have HFC := Lib.hid hfc
  have HFM := Lib.hid hfm
  clear ha2 hl hbw htb hfc hfm
  cases t with
  | false =>
    go_wp2_with (go_at_call 9; refine HA2.out.mono ?_; rintro e w3 ⟨rfl, hb3⟩)
    go_ret
    exact ⟨rfl, below_step HBW2.out hb3⟩
  | true =>
    go_wp2_with fail
    refine HFC.out.mono ?_
    rintro e w3 ⟨rfl, hb3⟩
    have HB3 := Lib.hid (below_step HB2.out hb3)
    clear c0 c1 hb3
    obtain ⟨c0, c1, hl, hbw, htb⟩ := HF.out _ HB3.out
    have ha3 := awake_calls _ htb
    have HA3 := Lib.hid ha3
    have HBW3 := Lib.hid hbw
    clear ha3 hl hbw htb
    cases fm with
    | false =>
      go_wp2_with (go_at_call 9; refine HA3.out.mono ?_; rintro e w4 ⟨rfl, hb4⟩)
      go_ret
      exact ⟨rfl, below_step HBW3.out hb4⟩
    | true =>
      have KJ := Lib.hid (show ∀ W, Below (w.alloc (.cells #[.slice A l.names.length c, .slice B l.order.length d] 25)).heap.size (w.alloc (.cells #[.slice A l.names.length c, .slice B l.order.length d] 25)) W → ∀ (a b : Int) v, joinI l true a b = v → Calls Tryd.prog 19 #[.agg #[.slice A l.names.length c, .slice B l.order.length d], .int .i64 a, .int .i64 b] W fun e w' => e = .returned (.int .i64 v) ∧ Below (w.alloc (.cells #[.slice A l.names.length c, .slice B l.order.length d] 25)).heap.size (w.alloc (.cells #[.slice A l.names.length c, .slice B l.order.length d] 25)) w' ∧ w'.cell? ⟨w.heap.size, 0, none⟩ = some (.slice A l.names.length c) ∧ w'.cell? ⟨w.heap.size, 1, none⟩ = some (.slice B l.order.length d) from fun W hW a b v hv => by
        obtain ⟨_, _, hl, _, htb⟩ := HF.out _ hW
        refine (join_calls l A B c d a b W hl HNS.out htb).mono ?_
        rintro e w' ⟨he, hb⟩
        obtain ⟨k0, k1, _⟩ := HF.out _ (below_step hW hb)
        exact ⟨by rw [he, hv], below_step hW hb, k0, k1⟩)
      have KM := Lib.hid (show ∀ W, Below (w.alloc (.cells #[.slice A l.names.length c, .slice B l.order.length d] 25)).heap.size (w.alloc (.cells #[.slice A l.names.length c, .slice B l.order.length d] 25)) W → ∀ (a b : Int) v, joinI l false a b = v → Calls Tryd.prog 20 #[.agg #[.slice A l.names.length c, .slice B l.order.length d], .int .i64 a, .int .i64 b] W fun e w' => e = .returned (.int .i64 v) ∧ Below (w.alloc (.cells #[.slice A l.names.length c, .slice B l.order.length d] 25)).heap.size (w.alloc (.cells #[.slice A l.names.length c, .slice B l.order.length d] 25)) w' ∧ w'.cell? ⟨w.heap.size, 0, none⟩ = some (.slice A l.names.length c) ∧ w'.cell? ⟨w.heap.size, 1, none⟩ = some (.slice B l.order.length d) from fun W hW a b v hv => by
        obtain ⟨_, _, hl, _, htb⟩ := HF.out _ hW
        refine (meet_calls l A B c d a b W hl HNS.out htb).mono ?_
        rintro e w' ⟨he, hb⟩
        obtain ⟨k0, k1, _⟩ := HF.out _ (below_step hW hb)
        exact ⟨by rw [he, hv], below_step hW hb, k0, k1⟩)
      have KL := Lib.hid (show ∀ W, Below (w.alloc (.cells #[.slice A l.names.length c, .slice B l.order.length d] 25)).heap.size (w.alloc (.cells #[.slice A l.names.length c, .slice B l.order.length d] 25)) W → ∀ (a b : Int) v, leqB l a b = v → Calls Tryd.prog 18 #[.agg #[.slice A l.names.length c, .slice B l.order.length d], .int .i64 a, .int .i64 b] W fun e w' => e = .returned (.bool v) ∧ Below (w.alloc (.cells #[.slice A l.names.length c, .slice B l.order.length d] 25)).heap.size (w.alloc (.cells #[.slice A l.names.length c, .slice B l.order.length d] 25)) w' ∧ w'.cell? ⟨w.heap.size, 0, none⟩ = some (.slice A l.names.length c) ∧ w'.cell? ⟨w.heap.size, 1, none⟩ = some (.slice B l.order.length d) from fun W hW a b v hv => by
        obtain ⟨_, _, hl, _, htb⟩ := HF.out _ hW
        refine (leq_calls l A B c d a b W hl HNS.out htb).mono ?_
        rintro e w' ⟨he, hb⟩
        obtain ⟨k0, k1, _⟩ := HF.out _ (below_step hW hb)
        exact ⟨by rw [he, hv], below_step hW hb, k0, k1⟩)
      have KB := Lib.hid (show ∀ W, Below (w.alloc (.cells #[.slice A l.names.length c, .slice B l.order.length d] 25)).heap.size (w.alloc (.cells #[.slice A l.names.length c, .slice B l.order.length d] 25)) W → ∀ v, botI l = v → Calls Tryd.prog 21 #[.agg #[.slice A l.names.length c, .slice B l.order.length d]] W fun e w' => e = .returned (.int .i64 v) ∧ Below (w.alloc (.cells #[.slice A l.names.length c, .slice B l.order.length d] 25)).heap.size (w.alloc (.cells #[.slice A l.names.length c, .slice B l.order.length d] 25)) w' ∧ w'.cell? ⟨w.heap.size, 0, none⟩ = some (.slice A l.names.length c) ∧ w'.cell? ⟨w.heap.size, 1, none⟩ = some (.slice B l.order.length d) from fun W hW v hv => by
        obtain ⟨_, _, hl, _, htb⟩ := HF.out _ hW
        refine (bottom_calls l A B c d W hl HNS.out htb).mono ?_
        rintro e w' ⟨he, hb⟩
        obtain ⟨k0, k1, _⟩ := HF.out _ (below_step hW hb)
        exact ⟨by rw [he, hv], below_step hW hb, k0, k1⟩)
      have KT := Lib.hid (show ∀ W, Below (w.alloc (.cells #[.slice A l.names.length c, .slice B l.order.length d] 25)).heap.size (w.alloc (.cells #[.slice A l.names.length c, .slice B l.order.length d] 25)) W → ∀ v, topI l = v → Calls Tryd.prog 22 #[.agg #[.slice A l.names.length c, .slice B l.order.length d]] W fun e w' => e = .returned (.int .i64 v) ∧ Below (w.alloc (.cells #[.slice A l.names.length c, .slice B l.order.length d] 25)).heap.size (w.alloc (.cells #[.slice A l.names.length c, .slice B l.order.length d] 25)) w' ∧ w'.cell? ⟨w.heap.size, 0, none⟩ = some (.slice A l.names.length c) ∧ w'.cell? ⟨w.heap.size, 1, none⟩ = some (.slice B l.order.length d) from fun W hW v hv => by
        obtain ⟨_, _, hl, _, htb⟩ := HF.out _ hW
        refine (top_calls l A B c d W hl HNS.out htb).mono ?_
        rintro e w' ⟨he, hb⟩
        obtain ⟨k0, k1, _⟩ := HF.out _ (below_step hW hb)
        exact ⟨by rw [he, hv], below_step hW hb, k0, k1⟩)
      go_wp2_with fail
      clear c0 c1
      go_loopg [4] (l.names.length) (fun g i wx => ∃ (a : Nat), i = .int .i64 a ∧ a ≤ l.names.length ∧ g = l.names.length - a ∧ Hid (Below (w.alloc (.cells #[.slice A l.names.length c, .slice B l.order.length d] 25)).heap.size (w.alloc (.cells #[.slice A l.names.length c, .slice B l.order.length d] 25)) wx))
      case atStart => exact ⟨0, rfl, Nat.zero_le _, rfl, HB3⟩
      case round =>
        obtain ⟨a, rfl, ha0, rfl, hbr⟩ := hrel
        by_cases ha : a < l.names.length
        · go_wp2_with fail
          go_loopg [5] (l.names.length) (fun g i wx => ∃ (b : Nat), i = .int .i64 b ∧ b ≤ l.names.length ∧ g = l.names.length - b ∧ Hid (Below (w.alloc (.cells #[.slice A l.names.length c, .slice B l.order.length d] 25)).heap.size (w.alloc (.cells #[.slice A l.names.length c, .slice B l.order.length d] 25)) wx))
          case atStart => exact ⟨0, rfl, Nat.zero_le _, rfl, hbr⟩
          case round =>
            clear hbr
            obtain ⟨b, rfl, hb0, rfl, hbr⟩ := hrel
            obtain ⟨c0, c1, _, _, _⟩ := HF.out _ hbr.out
            by_cases hb : b < l.names.length
            · obtain ⟨j, hj⟩ : ∃ j, j = bn l true a b := ⟨_, rfl⟩
              obtain ⟨m, hm⟩ : ∃ m, m = bn l false a b := ⟨_, rfl⟩
              have hf := HFM.out.symm
              have hbT := bd hf true
              have hbF := bd hf false
              have hjn : j < l.names.length := by rw [hj]; exact hbT.lt a b ha hb
              have hmn2 : m < l.names.length := by rw [hm]; exact hbF.lt a b ha hb
              have J1 := Lib.hid (show joinI l true a b = (j : Int) by rw [join_of hf true ha hb, hj])
              have J2 := Lib.hid (show joinI l true b a = (j : Int) by rw [join_of hf true hb ha, hj, hbT.comm hb ha])
              have M1 := Lib.hid (show joinI l false a b = (m : Int) by rw [join_of hf false ha hb, hm])
              have M2 := Lib.hid (show joinI l false b a = (m : Int) by rw [join_of hf false hb ha, hm, hbF.comm hb ha])
              have M3 := Lib.hid (show joinI l false a j = (a : Int) by
                rw [join_of hf false ha hjn, hbF.comm ha hjn, (hbF.le hjn ha).1 (by rw [hj]; exact hbT.left a b ha hb)])
              have J3 := Lib.hid (show joinI l true a m = (a : Int) by
                rw [join_of hf true ha hmn2, hbT.comm ha hmn2, (hbT.le hmn2 ha).1 (by rw [hm]; exact hbF.left a b ha hb)])
              obtain ⟨v, hv⟩ : ∃ v, v = ord l a b := ⟨_, rfl⟩
              have L1 := Lib.hid (show leqB l a b = v by rw [leq_of hf ha hb, hv])
              have q1 : ((j : Int) == (b : Int)) = v := by
                have := hbT.le ha hb
                rw [← hj] at this
                rw [hv, Bool.eq_iff_iff, beq_iff_eq, Int.ofNat_inj]
                exact this.symm
              have q2 : ((m : Int) == (a : Int)) = v := by
                have := hbF.le hb ha
                rw [hbF.comm hb ha, ← hm] at this
                rw [hv, Bool.eq_iff_iff, beq_iff_eq, Int.ofNat_inj]
                exact this.symm
              have HJ := Lib.hid hj
              have HMM := Lib.hid hm
              have hb00 := hbr.out
              clear hf hbT hbF hj hm hv
              go_wp2_with fail
              go_region_held3 (fun w' => w'.cell? ⟨w.heap.size, 0, none⟩ = some (.slice A l.names.length c) ∧ w'.cell? ⟨w.heap.size, 1, none⟩ = some (.slice B l.order.length d))
                (first | go_keep | exact ⟨s0, s1⟩)
                (first | (go_at_call 19; refine (KJ.out _ (by first | assumption | exact Below.drew (by assumption)) _ _ _ (by first | exact J1.out | exact J2.out | exact J3.out)).mono ?_; rintro e wa ⟨rfl, hba, s0, s1⟩) | (go_at_call 20; refine (KM.out _ (by first | assumption | exact Below.drew (by assumption)) _ _ _ (by first | exact M1.out | exact M2.out | exact M3.out)).mono ?_; rintro e wa ⟨rfl, hba, s0, s1⟩))
              go_wp2_with (first | (go_at_call 19; refine (KJ.out _ (by first | assumption | exact Below.drew (by assumption)) _ _ _ (by first | exact J1.out | exact J2.out | exact J3.out)).mono ?_; rintro e wa ⟨rfl, hba, s0, s1⟩) | (go_at_call 20; refine (KM.out _ (by first | assumption | exact Below.drew (by assumption)) _ _ _ (by first | exact M1.out | exact M2.out | exact M3.out)).mono ?_; rintro e wa ⟨rfl, hba, s0, s1⟩) | (go_at_call 18; refine (KL.out _ (by first | assumption | exact Below.drew (by assumption)) _ _ _ (by first | exact L1.out)).mono ?_; rintro e wa ⟨rfl, hba, s0, s1⟩))
              have HBC := Lib.hid hba
              clear hb00 c0 c1
              go_loopg [8] (l.names.length) (fun g i wx => ∃ (k : Nat), i = .int .i64 k ∧ k ≤ l.names.length ∧ g = l.names.length - k ∧ Hid (Below (w.alloc (.cells #[.slice A l.names.length c, .slice B l.order.length d] 25)).heap.size (w.alloc (.cells #[.slice A l.names.length c, .slice B l.order.length d] 25)) wx))
              case atStart => exact ⟨0, rfl, Nat.zero_le _, rfl, HBC⟩
              case round =>
                obtain ⟨k, rfl, hk0, rfl, hbr2⟩ := hrel
                obtain ⟨c0, c1, _, _, _⟩ := HF.out _ hbr2.out
                by_cases hk : k < l.names.length
                · have hf := HFM.out.symm
                  have hbT := bd hf true
                  have hbF := bd hf false
                  obtain ⟨x, hx⟩ : ∃ x, x = bn l true b k := ⟨_, rfl⟩
                  obtain ⟨y, hy⟩ : ∃ x, x = bn l true j k := ⟨_, rfl⟩
                  obtain ⟨x2, hx2⟩ : ∃ x, x = bn l false b k := ⟨_, rfl⟩
                  obtain ⟨y2, hy2⟩ : ∃ x, x = bn l false m k := ⟨_, rfl⟩
                  have hxn : x < l.names.length := by rw [hx]; exact hbT.lt b k hb hk
                  have hxn2 : x2 < l.names.length := by rw [hx2]; exact hbF.lt b k hb hk
                  have J4 := Lib.hid (show joinI l true b k = (x : Int) by rw [join_of hf true hb hk, hx])
                  have J5 := Lib.hid (show joinI l true j k = (y : Int) by rw [join_of hf true hjn hk, hy])
                  have J6 := Lib.hid (show joinI l true a x = (y : Int) by rw [join_of hf true ha hxn, hy, hx, HJ.out, hbT.assoc ha hb hk])
                  have M4 := Lib.hid (show joinI l false b k = (x2 : Int) by rw [join_of hf false hb hk, hx2])
                  have M5 := Lib.hid (show joinI l false m k = (y2 : Int) by rw [join_of hf false hmn2 hk, hy2])
                  have M6 := Lib.hid (show joinI l false a x2 = (y2 : Int) by rw [join_of hf false ha hxn2, hy2, hx2, HMM.out, hbF.assoc ha hb hk])
                  have hb00 := hbr2.out
                  clear hf hbT hbF hx hy hx2 hy2 hxn hxn2
                  go_wp2_with fail
                  go_region_held3 (fun w' => w'.cell? ⟨w.heap.size, 0, none⟩ = some (.slice A l.names.length c) ∧ w'.cell? ⟨w.heap.size, 1, none⟩ = some (.slice B l.order.length d))
                    (first | go_keep | exact ⟨s0, s1⟩)
                    (first | (go_at_call 19; refine (KJ.out _ (by first | assumption | exact Below.drew (by assumption)) _ _ _ (by first | exact J4.out | exact J5.out | exact J6.out)).mono ?_; rintro e wa ⟨rfl, hba, s0, s1⟩) | (go_at_call 20; refine (KM.out _ (by first | assumption | exact Below.drew (by assumption)) _ _ _ (by first | exact M4.out | exact M5.out | exact M6.out)).mono ?_; rintro e wa ⟨rfl, hba, s0, s1⟩))
                  have HBA := Lib.hid hba
                  clear hba
                  go_wp2
                  go_roundg (l.names.length - (k + 1))
                  case measure => omega
                  case rel => exact ⟨k + 1, by go_num, by omega, rfl, HBA⟩
                · obtain rfl : k = l.names.length := by omega
                  go_wp2
                  go_roundg (l.names.length - (b + 1))
                  case measure => omega
                  case rel => exact ⟨b + 1, by go_num, by omega, rfl, hbr2⟩
            · obtain rfl : b = l.names.length := by omega
              obtain ⟨bo, hbo, hbn, hbl⟩ := bot_of HFM.out.symm
              obtain ⟨tp, hto, htn, htl⟩ := top_of HFM.out.symm
              have BO := Lib.hid hbo
              have TO := Lib.hid hto
              have L2 := Lib.hid (show leqB l bo a = true by rw [leq_of HFM.out.symm hbn ha]; exact hbl a ha)
              have L3 := Lib.hid (show leqB l a tp = true by rw [leq_of HFM.out.symm ha htn]; exact htl a ha)
              have hb00 := hbr.out
              clear hbo hbn hbl hto htn htl
              go_wp2_with fail
              go_region_held3 (fun w' => w'.cell? ⟨w.heap.size, 0, none⟩ = some (.slice A l.names.length c) ∧ w'.cell? ⟨w.heap.size, 1, none⟩ = some (.slice B l.order.length d))
                (first | go_keep | exact ⟨s0, s1⟩)
                (first | (go_at_call 18; refine (KL.out _ (by first | assumption | exact Below.drew (by assumption)) _ _ _ (by first | exact L2.out | exact L3.out)).mono ?_; rintro e wa ⟨rfl, hba, s0, s1⟩) | (go_at_call 21; refine (KB.out _ (by first | assumption | exact Below.drew (by assumption)) _ BO.out).mono ?_; rintro e wa ⟨rfl, hba, s0, s1⟩) | (go_at_call 22; refine (KT.out _ (by first | assumption | exact Below.drew (by assumption)) _ TO.out).mono ?_; rintro e wa ⟨rfl, hba, s0, s1⟩))
              have HBA := Lib.hid hba
              clear hba
              go_wp2
              go_roundg (l.names.length - (a + 1))
              case measure => omega
              case rel => exact ⟨a + 1, by go_num, by omega, rfl, HBA⟩
        · obtain rfl : a = l.names.length := by omega
          obtain ⟨_, _, _, hbw, _⟩ := HF.out _ hbr.out
          have HBZ := Lib.hid hbw
          clear hbw
          go_wp2
          go_ret
          exact ⟨rfl, HBZ.out⟩
end Go.Proofs.YtokogcfcaehifaaDoor.LawLaws
