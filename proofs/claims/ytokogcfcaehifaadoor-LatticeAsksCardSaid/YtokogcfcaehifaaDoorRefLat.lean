/- The reference's lattice functions (above, below, join, meet), each at every lattice: they answer what the program's do. No condition. -/
import Derived.Test.YtokogcfcaehifaaDoorLatF
import Derived.Test.YtokogcfcaehifaaDoorRefName
namespace Go.Proofs.YtokogcfcaehifaaDoor.RefLat
set_option linter.unusedVariables false
open Go.RowKit Go.Proofs.YtokogcfcaehifaaDoorW.PrintWords Go.Proofs.YtokogcfcaehifaaDoor.Aux Go.Proofs.YtokogcfcaehifaaDoor.LatSpec Go.Proofs.YtokogcfcaehifaaDoor.LatWalk Go.Proofs.YtokogcfcaehifaaDoor.LatF
set_option maxRecDepth 100000 in
set_option maxHeartbeats 1600000 in
theorem above_calls (l : Lat) (A B : Option Addr) (c d : Nat) (a b m : Nat) (w : World) (h : LR w l A c B d) (hq : Sq l) (ha : a < l.names.length) (hb : b < l.names.length) (hm : m < l.names.length) :
    Calls Tryd.prog 54 #[.agg #[.slice A l.names.length c, .slice B l.names.length d], .int .i64 a, .int .i64 b, .int .i64 m] w fun e w' => e = .returned (.bool (isB l true a b m)) ∧ Below w.heap.size w w' := by
  have hb1 := below_alloc (Below.refl w.heap.size w) (.cells #[.slice A l.names.length c, .slice B l.names.length d] 25)
  have hn : l.names.length ≤ 1000 := hq.2.2
  obtain ⟨ad, R, cx, hBB, hrow, hcell⟩ := LR.sk (h.below hb1) hq (by omega)
  subst hBB
  have HBW := Lib.hid hb1
  have HROW := Lib.hid hrow
  have HCELL := Lib.hid hcell
  obtain ⟨v1, hv1⟩ : ∃ v, v = und l true a m := ⟨_, rfl⟩
  obtain ⟨v2, hv2⟩ : ∃ v, v = und l true b m := ⟨_, rfl⟩
  have k1 := HCELL.out a m ha hm
  have k2 := HCELL.out b m hb hm
  rw [show ord l a m = v1 from hv1.symm] at k1
  rw [show ord l b m = v2 from hv2.symm] at k2
  have ra := hrow a ha
  have rb := hrow b hb
  have rm := hrow m hm
  have HV1 := Lib.hid hv1
  have HV2 := Lib.hid hv2
  clear hb1 h hq hrow hcell hv1 hv2
  cases v1 with
  | false =>
    have hres : isB l true a b m = false := by simp [isB, ← HV1.out]
    have HRES := Lib.hid hres
    clear hres
    go_enter Tryd.func54, Tryd.ntmps54
    go_wp2
    go_ret
    exact ⟨ret_bool HRES.out.symm, HBW.out⟩
  | true =>
    cases v2 with
    | false =>
      have hres : isB l true a b m = false := by simp [isB, ← HV2.out]
      have HRES := Lib.hid hres
      clear hres
      go_enter Tryd.func54, Tryd.ntmps54
      go_wp2
      go_ret
      exact ⟨ret_bool HRES.out.symm, HBW.out⟩
    | true =>
      go_enter Tryd.func54, Tryd.ntmps54
      go_wp2_with fail
      go_loopg [9] (l.names.length) (fun g i wr => ∃ k : Nat, i = .int .i64 k ∧ k ≤ l.names.length ∧ g = l.names.length - k ∧ (w.alloc (.cells #[.slice A l.names.length c, .slice (some ad) l.names.length d] 25)) = wr ∧ Hid (lst l true a b m k = true))
      case atStart => exact ⟨0, rfl, Nat.zero_le _, rfl, rfl, Lib.hid rfl⟩
      case round =>
        obtain ⟨k, rfl, hk, rfl, rfl, hl⟩ := hrel
        by_cases hlt : k < l.names.length
        · have rk := HROW.out k hlt
          obtain ⟨u1, hu1⟩ : ∃ v, v = und l true a k := ⟨_, rfl⟩
          obtain ⟨u2, hu2⟩ : ∃ v, v = und l true b k := ⟨_, rfl⟩
          obtain ⟨u3, hu3⟩ : ∃ v, v = und l true m k := ⟨_, rfl⟩
          have q1 := HCELL.out a k ha hlt
          have q2 := HCELL.out b k hb hlt
          have q3 := HCELL.out m k hm hlt
          rw [show ord l a k = u1 from hu1.symm] at q1
          rw [show ord l b k = u2 from hu2.symm] at q2
          rw [show ord l m k = u3 from hu3.symm] at q3
          have HU1 := Lib.hid hu1
          have HU2 := Lib.hid hu2
          have HU3 := Lib.hid hu3
          clear hu1 hu2 hu3
          cases u1 with
          | false =>
            have hl2 : lst l true a b m (k + 1) = true := by rw [lst_succ, hl.out, ← HU1.out]; simp
            have HL := Lib.hid hl2
            clear hl2
            go_wp2
            go_roundg (l.names.length - (k + 1))
            case measure => omega
            case rel => exact ⟨k + 1, by go_num, by omega, rfl, rfl, HL⟩
          | true =>
            cases u2 with
            | false =>
              have hl2 : lst l true a b m (k + 1) = true := by rw [lst_succ, hl.out, ← HU2.out]; simp
              have HL := Lib.hid hl2
              clear hl2
              go_wp2
              go_roundg (l.names.length - (k + 1))
              case measure => omega
              case rel => exact ⟨k + 1, by go_num, by omega, rfl, rfl, HL⟩
            | true =>
              cases u3 with
              | true =>
                have hl2 : lst l true a b m (k + 1) = true := by rw [lst_succ, hl.out, ← HU3.out]; simp
                have HL := Lib.hid hl2
                clear hl2
                go_wp2
                go_roundg (l.names.length - (k + 1))
                case measure => omega
                case rel => exact ⟨k + 1, by go_num, by omega, rfl, rfl, HL⟩
              | false =>
                have hres : isB l true a b m = false := by
                  have : lst l true a b m l.names.length = false := by
                    rw [lst, List.all_eq_false]
                    exact ⟨k, by simpa using hlt, by rw [← HU1.out, ← HU2.out, ← HU3.out]; simp⟩
                  rw [isB, Bool.and_eq_false_iff]
                  exact .inr this
                have HRES := Lib.hid hres
                clear hres
                go_wp2
                go_ret
                exact ⟨ret_bool HRES.out.symm, HBW.out⟩
        · obtain rfl : k = l.names.length := by omega
          have hres : isB l true a b m = true := by rw [isB, ← HV1.out, ← HV2.out]; exact hl.out
          have HRES := Lib.hid hres
          clear hres
          go_wp2
          go_ret
          exact ⟨ret_bool HRES.out.symm, HBW.out⟩
set_option maxRecDepth 100000 in
set_option maxHeartbeats 1600000 in
theorem below_calls (l : Lat) (A B : Option Addr) (c d : Nat) (a b m : Nat) (w : World) (h : LR w l A c B d) (hq : Sq l) (ha : a < l.names.length) (hb : b < l.names.length) (hm : m < l.names.length) :
    Calls Tryd.prog 55 #[.agg #[.slice A l.names.length c, .slice B l.names.length d], .int .i64 a, .int .i64 b, .int .i64 m] w fun e w' => e = .returned (.bool (isB l false a b m)) ∧ Below w.heap.size w w' := by
  have hb1 := below_alloc (Below.refl w.heap.size w) (.cells #[.slice A l.names.length c, .slice B l.names.length d] 25)
  have hn : l.names.length ≤ 1000 := hq.2.2
  obtain ⟨ad, R, cx, hBB, hrow, hcell⟩ := LR.sk (h.below hb1) hq (by omega)
  subst hBB
  have HBW := Lib.hid hb1
  have HROW := Lib.hid hrow
  have HCELL := Lib.hid hcell
  obtain ⟨v1, hv1⟩ : ∃ v, v = und l false a m := ⟨_, rfl⟩
  obtain ⟨v2, hv2⟩ : ∃ v, v = und l false b m := ⟨_, rfl⟩
  have k1 := HCELL.out m a hm ha
  have k2 := HCELL.out m b hm hb
  rw [show ord l m a = v1 from hv1.symm] at k1
  rw [show ord l m b = v2 from hv2.symm] at k2
  have ra := hrow a ha
  have rb := hrow b hb
  have rm := hrow m hm
  have HV1 := Lib.hid hv1
  have HV2 := Lib.hid hv2
  clear hb1 h hq hrow hcell hv1 hv2
  cases v1 with
  | false =>
    have hres : isB l false a b m = false := by simp [isB, ← HV1.out]
    have HRES := Lib.hid hres
    clear hres
    go_enter Tryd.func55, Tryd.ntmps55
    go_wp2
    go_ret
    exact ⟨ret_bool HRES.out.symm, HBW.out⟩
  | true =>
    cases v2 with
    | false =>
      have hres : isB l false a b m = false := by simp [isB, ← HV2.out]
      have HRES := Lib.hid hres
      clear hres
      go_enter Tryd.func55, Tryd.ntmps55
      go_wp2
      go_ret
      exact ⟨ret_bool HRES.out.symm, HBW.out⟩
    | true =>
      go_enter Tryd.func55, Tryd.ntmps55
      go_wp2_with fail
      go_loopg [9] (l.names.length) (fun g i wr => ∃ k : Nat, i = .int .i64 k ∧ k ≤ l.names.length ∧ g = l.names.length - k ∧ (w.alloc (.cells #[.slice A l.names.length c, .slice (some ad) l.names.length d] 25)) = wr ∧ Hid (lst l false a b m k = true))
      case atStart => exact ⟨0, rfl, Nat.zero_le _, rfl, rfl, Lib.hid rfl⟩
      case round =>
        obtain ⟨k, rfl, hk, rfl, rfl, hl⟩ := hrel
        by_cases hlt : k < l.names.length
        · have rk := HROW.out k hlt
          obtain ⟨u1, hu1⟩ : ∃ v, v = und l false a k := ⟨_, rfl⟩
          obtain ⟨u2, hu2⟩ : ∃ v, v = und l false b k := ⟨_, rfl⟩
          obtain ⟨u3, hu3⟩ : ∃ v, v = und l false m k := ⟨_, rfl⟩
          have q1 := HCELL.out k a hlt ha
          have q2 := HCELL.out k b hlt hb
          have q3 := HCELL.out k m hlt hm
          rw [show ord l k a = u1 from hu1.symm] at q1
          rw [show ord l k b = u2 from hu2.symm] at q2
          rw [show ord l k m = u3 from hu3.symm] at q3
          have HU1 := Lib.hid hu1
          have HU2 := Lib.hid hu2
          have HU3 := Lib.hid hu3
          clear hu1 hu2 hu3
          cases u1 with
          | false =>
            have hl2 : lst l false a b m (k + 1) = true := by rw [lst_succ, hl.out, ← HU1.out]; simp
            have HL := Lib.hid hl2
            clear hl2
            go_wp2
            go_roundg (l.names.length - (k + 1))
            case measure => omega
            case rel => exact ⟨k + 1, by go_num, by omega, rfl, rfl, HL⟩
          | true =>
            cases u2 with
            | false =>
              have hl2 : lst l false a b m (k + 1) = true := by rw [lst_succ, hl.out, ← HU2.out]; simp
              have HL := Lib.hid hl2
              clear hl2
              go_wp2
              go_roundg (l.names.length - (k + 1))
              case measure => omega
              case rel => exact ⟨k + 1, by go_num, by omega, rfl, rfl, HL⟩
            | true =>
              cases u3 with
              | true =>
                have hl2 : lst l false a b m (k + 1) = true := by rw [lst_succ, hl.out, ← HU3.out]; simp
                have HL := Lib.hid hl2
                clear hl2
                go_wp2
                go_roundg (l.names.length - (k + 1))
                case measure => omega
                case rel => exact ⟨k + 1, by go_num, by omega, rfl, rfl, HL⟩
              | false =>
                have hres : isB l false a b m = false := by
                  have : lst l false a b m l.names.length = false := by
                    rw [lst, List.all_eq_false]
                    exact ⟨k, by simpa using hlt, by rw [← HU1.out, ← HU2.out, ← HU3.out]; simp⟩
                  rw [isB, Bool.and_eq_false_iff]
                  exact .inr this
                have HRES := Lib.hid hres
                clear hres
                go_wp2
                go_ret
                exact ⟨ret_bool HRES.out.symm, HBW.out⟩
        · obtain rfl : k = l.names.length := by omega
          have hres : isB l false a b m = true := by rw [isB, ← HV1.out, ← HV2.out]; exact hl.out
          have HRES := Lib.hid hres
          clear hres
          go_wp2
          go_ret
          exact ⟨ret_bool HRES.out.symm, HBW.out⟩
set_option maxRecDepth 100000 in
set_option maxHeartbeats 1600000 in
theorem join_calls (l : Lat) (A B : Option Addr) (c d : Nat) (a b : Nat) (w : World) (h : LR w l A c B d) (hq : Sq l) (ha : a < l.names.length) (hb : b < l.names.length) :
    Calls Tryd.prog 38 #[.agg #[.slice A l.names.length c, .slice B l.names.length d], .int .i64 a, .int .i64 b] w fun e w' => e = .returned (.int .i64 (boundN l true a b)) ∧ Below w.heap.size w w' := by
  have hb1 := below_alloc (Below.refl w.heap.size w) (.cells #[.slice A l.names.length c, .slice B l.names.length d] 25)
  have hn : l.names.length ≤ 1000 := hq.2.2
  have hF : ∀ W, Below (w.alloc (.cells #[.slice A l.names.length c, .slice B l.names.length d] 25)).heap.size (w.alloc (.cells #[.slice A l.names.length c, .slice B l.names.length d] 25)) W → W.cell? ⟨w.heap.size, 0, none⟩ = some (.slice A l.names.length c) ∧ W.cell? ⟨w.heap.size, 1, none⟩ = some (.slice B l.names.length d) ∧ LR W l A c B d ∧ Below w.heap.size w W := fun W hW => by
    have bk := blk_below (blk_new w _) hW
    exact ⟨(blk_cell bk 0).trans rfl, (blk_cell bk 1).trans rfl, h.below (below_step hb1 hW), below_step hb1 hW⟩
  have HF := Lib.hid hF
  have HQ := Lib.hid hq
  clear hb1 hF h hq
  go_enter Tryd.func38, Tryd.ntmps38
  go_wp2_with fail
  go_loopg [7] (l.names.length) (fun g i wr => ∃ k : Nat, i = .int .i64 k ∧ k ≤ l.names.length ∧ g = l.names.length - k ∧ Hid (Below (w.alloc (.cells #[.slice A l.names.length c, .slice B l.names.length d] 25)).heap.size (w.alloc (.cells #[.slice A l.names.length c, .slice B l.names.length d] 25)) wr) ∧ Hid (∀ j, j < k → isB l true a b j = false))
  case atStart => exact ⟨0, rfl, Nat.zero_le _, rfl, Lib.hid (Below.refl _ _), Lib.hid (fun j hj => absurd hj (by omega))⟩
  case round =>
    obtain ⟨k, rfl, hk, rfl, hbr, hall⟩ := hrel
    obtain ⟨c0, c1, hl, hbw⟩ := HF.out _ hbr.out
    have HBW := Lib.hid hbw
    by_cases hlt : k < l.names.length
    · have hc := above_calls l A B c d a b k _ hl HQ.out ha hb hlt
      obtain ⟨t, ht⟩ : ∃ t, t = isB l true a b k := ⟨_, rfl⟩
      rw [← ht] at hc
      have HC := Lib.hid hc
      have HT := Lib.hid ht
      clear hc ht hbw hl
      cases t with
      | true =>
        have hres := bound_found hlt HT.out.symm hall.out
        have HRES := Lib.hid hres
        clear hres
        go_wp2_with (go_at_call 54; refine HC.out.mono ?_; rintro e w3 ⟨rfl, hb3⟩)
        go_ret
        exact ⟨ret_int HRES.out.symm, below_step HBW.out hb3⟩
      | false =>
        have hno : ∀ j, j < k + 1 → isB l true a b j = false := fun j hj => by
          rcases Nat.lt_or_ge j k with h | h
          · exact hall.out j h
          · obtain rfl : j = k := by omega
            exact HT.out.symm
        have HNO := Lib.hid hno
        clear hno
        go_wp2_with (go_at_call 54; refine HC.out.mono ?_; rintro e w3 ⟨rfl, hb3⟩; have hb3' := below_step hbr.out hb3; have HB3 := Lib.hid hb3'; clear hb3 hb3')
        go_roundg (l.names.length - (k + 1))
        case measure => omega
        case rel => exact ⟨k + 1, by go_num, by omega, rfl, HB3, HNO⟩
    · obtain rfl : k = l.names.length := by omega
      have hres := bound_none hall.out
      have HRES := Lib.hid hres
      clear hres hbw hl
      go_wp2
      go_ret
      exact ⟨ret_int HRES.out.symm, HBW.out⟩
set_option maxRecDepth 100000 in
set_option maxHeartbeats 1600000 in
theorem meet_calls (l : Lat) (A B : Option Addr) (c d : Nat) (a b : Nat) (w : World) (h : LR w l A c B d) (hq : Sq l) (ha : a < l.names.length) (hb : b < l.names.length) :
    Calls Tryd.prog 39 #[.agg #[.slice A l.names.length c, .slice B l.names.length d], .int .i64 a, .int .i64 b] w fun e w' => e = .returned (.int .i64 (boundN l false a b)) ∧ Below w.heap.size w w' := by
  have hb1 := below_alloc (Below.refl w.heap.size w) (.cells #[.slice A l.names.length c, .slice B l.names.length d] 25)
  have hn : l.names.length ≤ 1000 := hq.2.2
  have hF : ∀ W, Below (w.alloc (.cells #[.slice A l.names.length c, .slice B l.names.length d] 25)).heap.size (w.alloc (.cells #[.slice A l.names.length c, .slice B l.names.length d] 25)) W → W.cell? ⟨w.heap.size, 0, none⟩ = some (.slice A l.names.length c) ∧ W.cell? ⟨w.heap.size, 1, none⟩ = some (.slice B l.names.length d) ∧ LR W l A c B d ∧ Below w.heap.size w W := fun W hW => by
    have bk := blk_below (blk_new w _) hW
    exact ⟨(blk_cell bk 0).trans rfl, (blk_cell bk 1).trans rfl, h.below (below_step hb1 hW), below_step hb1 hW⟩
  have HF := Lib.hid hF
  have HQ := Lib.hid hq
  clear hb1 hF h hq
  go_enter Tryd.func39, Tryd.ntmps39
  go_wp2_with fail
  go_loopg [7] (l.names.length) (fun g i wr => ∃ k : Nat, i = .int .i64 k ∧ k ≤ l.names.length ∧ g = l.names.length - k ∧ Hid (Below (w.alloc (.cells #[.slice A l.names.length c, .slice B l.names.length d] 25)).heap.size (w.alloc (.cells #[.slice A l.names.length c, .slice B l.names.length d] 25)) wr) ∧ Hid (∀ j, j < k → isB l false a b j = false))
  case atStart => exact ⟨0, rfl, Nat.zero_le _, rfl, Lib.hid (Below.refl _ _), Lib.hid (fun j hj => absurd hj (by omega))⟩
  case round =>
    obtain ⟨k, rfl, hk, rfl, hbr, hall⟩ := hrel
    obtain ⟨c0, c1, hl, hbw⟩ := HF.out _ hbr.out
    have HBW := Lib.hid hbw
    by_cases hlt : k < l.names.length
    · have hc := below_calls l A B c d a b k _ hl HQ.out ha hb hlt
      obtain ⟨t, ht⟩ : ∃ t, t = isB l false a b k := ⟨_, rfl⟩
      rw [← ht] at hc
      have HC := Lib.hid hc
      have HT := Lib.hid ht
      clear hc ht hbw hl
      cases t with
      | true =>
        have hres := bound_found hlt HT.out.symm hall.out
        have HRES := Lib.hid hres
        clear hres
        go_wp2_with (go_at_call 55; refine HC.out.mono ?_; rintro e w3 ⟨rfl, hb3⟩)
        go_ret
        exact ⟨ret_int HRES.out.symm, below_step HBW.out hb3⟩
      | false =>
        have hno : ∀ j, j < k + 1 → isB l false a b j = false := fun j hj => by
          rcases Nat.lt_or_ge j k with h | h
          · exact hall.out j h
          · obtain rfl : j = k := by omega
            exact HT.out.symm
        have HNO := Lib.hid hno
        clear hno
        go_wp2_with (go_at_call 55; refine HC.out.mono ?_; rintro e w3 ⟨rfl, hb3⟩; have hb3' := below_step hbr.out hb3; have HB3 := Lib.hid hb3'; clear hb3 hb3')
        go_roundg (l.names.length - (k + 1))
        case measure => omega
        case rel => exact ⟨k + 1, by go_num, by omega, rfl, HB3, HNO⟩
    · obtain rfl : k = l.names.length := by omega
      have hres := bound_none hall.out
      have HRES := Lib.hid hres
      clear hres hbw hl
      go_wp2
      go_ret
      exact ⟨ret_int HRES.out.symm, HBW.out⟩
end Go.Proofs.YtokogcfcaehifaaDoor.RefLat
