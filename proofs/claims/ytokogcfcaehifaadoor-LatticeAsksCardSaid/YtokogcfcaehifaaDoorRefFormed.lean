/- The reference's shaped and Formed, at every lattice: Formed answers what lattice.Formed does. No condition. -/
import Derived.Test.YtokogcfcaehifaaDoorRefLat
namespace Go.Proofs.YtokogcfcaehifaaDoor.RefFormed
set_option linter.unusedVariables false
open Go.RowKit Go.Proofs.YtokogcfcaehifaaDoorW.PrintWords Go.Proofs.YtokogcfcaehifaaDoor.Aux Go.Proofs.YtokogcfcaehifaaDoor.LatSpec Go.Proofs.YtokogcfcaehifaaDoor.LatWalk Go.Proofs.YtokogcfcaehifaaDoor.LatF
set_option maxRecDepth 100000 in
set_option maxHeartbeats 4000000 in
theorem shaped_calls (l : Lat) (A B : Option Addr) (c d : Nat) (w : World) (h : LR w l A c B d) (hs : ∀ s ∈ l.names, s.size ≤ 9223372036854775807) :
    Calls Tryd.prog 37 #[.agg #[.slice A l.names.length c, .slice B l.order.length d]] w fun e w' => e = .returned (.bool (shapedB l)) ∧ Below w.heap.size w w' := by
  have hb1 := below_alloc (Below.refl w.heap.size w) (.cells #[.slice A l.names.length c, .slice B l.order.length d] 25)
  have hF : ∀ W, Below (w.alloc (.cells #[.slice A l.names.length c, .slice B l.order.length d] 25)).heap.size (w.alloc (.cells #[.slice A l.names.length c, .slice B l.order.length d] 25)) W → W.cell? ⟨w.heap.size, 0, none⟩ = some (.slice A l.names.length c) ∧ W.cell? ⟨w.heap.size, 1, none⟩ = some (.slice B l.order.length d) ∧ LR W l A c B d ∧ Below w.heap.size w W := fun W hW => by
    have bk := blk_below (blk_new w _) hW
    exact ⟨(blk_cell bk 0).trans rfl, (blk_cell bk 1).trans rfl, h.below (below_step hb1 hW), below_step hb1 hW⟩
  have HF := Lib.hid hF
  have HS := Lib.hid hs
  have hmn := (C_len h.2.2.1).2
  have hmo := (C_len h.2.2.2).2
  clear hb1 hF hs h
  by_cases hn : 1 ≤ l.names.length ∧ l.names.length ≤ 8 ∧ l.order.length = l.names.length
  · obtain ⟨h1, h8, hsq⟩ := hn
    have e1 : ((l.order.length : Int) != (l.names.length : Int)) = false := by simp [hsq]
    have HSQ := Lib.hid hsq
    clear hsq
    have d1 : decide ((l.names.length : Int) < 1) = false := by simp; omega
    have d8 : decide ((8 : Int) < (l.names.length : Int)) = false := by simp; omega
    go_enter Tryd.func37, Tryd.ntmps37
    go_wp2_with fail
    go_loopg [4] (l.names.length) (fun g i wr => ∃ k : Nat, i = .int .i64 k ∧ k ≤ l.names.length ∧ g = l.names.length - k ∧ Hid (Below (w.alloc (.cells #[.slice A l.names.length c, .slice B l.order.length d] 25)).heap.size (w.alloc (.cells #[.slice A l.names.length c, .slice B l.order.length d] 25)) wr) ∧ Hid (∀ j, j < k → nmOK l j))
    case atStart => exact ⟨0, rfl, Nat.zero_le _, rfl, Lib.hid (Below.refl _ _), Lib.hid (fun j hj => absurd hj (by omega))⟩
    case round =>
      obtain ⟨k, rfl, hk, rfl, hbr, hall⟩ := hrel
      obtain ⟨c0, c1, hl, hbw⟩ := HF.out wr hbr.out
      have HBW := Lib.hid hbw
      clear hbw
      by_cases hlt : k < l.names.length
      · obtain ⟨ad, hA, hx⟩ := C_str_get hl.2.2.1 hlt
        have hko : k < l.order.length := by rw [HSQ.out]; exact hlt
        obtain ⟨adB, A', c', hBB, hrow, hrl, hrC⟩ := C_slice_get hl.2.2.2 hko
        subst hA
        subst hBB
        generalize hxe : l.names.getD k ByteArray.empty = x at *
        generalize hrow2 : (l.order.getD k []).length = rl at *
        have hmem : x ∈ l.names := by rw [← hxe, List.getD_eq_getElem?_getD, List.getElem?_eq_getElem hlt]; exact List.getElem_mem hlt
        have hname := RefName.name_calls x wr (HS.out x hmem)
        have HNAME := Lib.hid hname
        have HX := Lib.hid hxe
        have HROW := Lib.hid hrow2
        clear hname hxe hmem hl hrow2 hrC
        cases hv : nameP x.data.toList with
        | false =>
          have hres : shapedB l = false := shapedB_false fun f => by
            have := (f.nm k hlt).1
            rw [HX.out, hv] at this
            cases this
          have HRES := Lib.hid hres
          rw [hv] at HNAME
          clear hres hv
          go_wp2_with (go_at_call 14; refine HNAME.out.mono ?_; rintro e w3 ⟨rfl, rfl⟩)
          go_ret
          exact ⟨ret_bool HRES.out.symm, HBW.out⟩
        | true =>
          rw [hv] at HNAME
          have HV := Lib.hid hv
          clear hv
          by_cases hr : rl = l.names.length
          · have e2 : ((rl : Int) != (l.names.length : Int)) = false := by simp [hr]
            have HR := Lib.hid hr
            clear hr
            go_wp2_with (go_at_call 14; refine HNAME.out.mono ?_; rintro e w3 ⟨rfl, rfl⟩)
            clear c0 c1 hx hrow
            go_loopg [5] k (fun g i wx => ∃ m : Nat, i = .int .i64 m ∧ m ≤ k ∧ g = k - m ∧ Hid (Below (w.alloc (.cells #[.slice (some ad) l.names.length c, .slice (some adB) l.order.length d] 25)).heap.size (w.alloc (.cells #[.slice (some ad) l.names.length c, .slice (some adB) l.order.length d] 25)) wx) ∧ Hid (∀ j, j < m → l.names.getD j ByteArray.empty ≠ x))
            case atStart => exact ⟨0, rfl, Nat.zero_le _, rfl, hbr, Lib.hid (fun j hj => absurd hj (by omega))⟩
            case round =>
              obtain ⟨m, rfl, hm, rfl, hbx, hno⟩ := hrel
              obtain ⟨c0, c1, hl, hbw⟩ := HF.out _ hbx.out
              have HBX := Lib.hid hbw
              clear hbw
              by_cases hmk : m < k
              · have hmlt : m < l.names.length := by omega
                obtain ⟨ad2, hA2, hy⟩ := C_str_get hl.2.2.1 hmlt
                obtain ⟨ad3, hA3, hx3⟩ := C_str_get hl.2.2.1 hlt
                obtain rfl : ad = ad2 := by injection hA2
                obtain rfl : ad = ad3 := by injection hA3
                rw [HX.out] at hx3
                generalize hye : l.names.getD m ByteArray.empty = y at *
                have HY := Lib.hid hye
                clear hye hA2 hA3 hl
                by_cases he : y = x
                · subst he
                  have hs := str_eq y
                  have hres : shapedB l = false := shapedB_false fun f => by
                    have := (f.nm k hlt).2.1
                    rw [HX.out, ← HY.out] at this
                    exact this (mem_take hk hmk)
                  have HRES := Lib.hid hres
                  clear hres
                  go_wp2_with fail
                  go_quiet (fail)
                  go_wp2
                  go_ret
                  exact ⟨ret_bool HRES.out.symm, pw_below_drewN HBX.out _⟩
                · have hs := str_ne he
                  have hno2 : ∀ j, j < m + 1 → l.names.getD j ByteArray.empty ≠ x := fun j hj => by
                    rcases Nat.lt_or_ge j m with h | h
                    · exact hno.out j h
                    · obtain rfl : j = m := by omega
                      rw [HY.out]
                      exact he
                  have HNO := Lib.hid hno2
                  clear hno2 he
                  go_wp2_with fail
                  go_quiet (fail)
                  go_wp2
                  go_roundg (k - (m + 1))
                  case measure => omega
                  case rel => exact ⟨m + 1, by go_num, by omega, rfl, Lib.hid (pw_below_drewN hbx.out _), HNO⟩
              · obtain rfl : m = k := by omega
                have hall2 : ∀ j, j < m + 1 → nmOK l j := fun j hj => by
                  rcases Nat.lt_or_ge j m with h | h
                  · exact hall.out j h
                  · obtain rfl : j = m := by omega
                    exact ⟨by rw [HX.out]; exact HV.out, by rw [HX.out]; exact not_mem_take hk hno.out, by rw [HROW.out]; exact HR.out⟩
                have HALL2 := Lib.hid hall2
                clear hall2 hl
                go_wp2
                go_roundg (l.names.length - (m + 1))
                case measure => omega
                case rel => exact ⟨m + 1, by go_num, by omega, rfl, hbx, HALL2⟩
          · have e2 : ((rl : Int) != (l.names.length : Int)) = true := by rw [bne_iff_ne]; omega
            have hres : shapedB l = false := shapedB_false fun f => hr (by rw [← HROW.out]; exact (f.nm k hlt).2.2)
            have HRES := Lib.hid hres
            clear hres hr
            go_wp2_with (go_at_call 14; refine HNAME.out.mono ?_; rintro e w3 ⟨rfl, rfl⟩)
            go_ret
            exact ⟨ret_bool HRES.out.symm, HBW.out⟩
      · obtain rfl : k = l.names.length := by omega
        have hres : shapedB l = true := shapedB_true ⟨⟨h1, h8⟩, HSQ.out, hall.out⟩
        have HRES := Lib.hid hres
        clear hres hl
        go_wp2
        go_ret
        exact ⟨ret_bool HRES.out.symm, HBW.out⟩
  · have hres : shapedB l = false := shapedB_false fun f => hn ⟨f.few.1, f.few.2, f.sq⟩
    have HRES := Lib.hid hres
    clear hres
    by_cases h1 : 1 ≤ l.names.length
    · by_cases h8 : l.names.length ≤ 8
      · have e1 : ((l.order.length : Int) != (l.names.length : Int)) = true := by
          rw [bne_iff_ne]
          intro e
          exact hn ⟨h1, h8, by omega⟩
        clear hn
        go_enter Tryd.func37, Tryd.ntmps37
        go_wp2
        go_ret
        exact ⟨ret_bool HRES.out.symm, below_alloc (Below.refl _ _) _⟩
      · clear hn
        go_enter Tryd.func37, Tryd.ntmps37
        go_wp2
        go_ret
        exact ⟨ret_bool HRES.out.symm, below_alloc (Below.refl _ _) _⟩
    · clear hn
      go_enter Tryd.func37, Tryd.ntmps37
      go_wp2
      go_ret
      exact ⟨ret_bool HRES.out.symm, below_alloc (Below.refl _ _) _⟩
/-- What a pair of labels must keep. -/
def abOK2 (l : Lat) (a b : Nat) : Prop := (a = b → ord l a a = true) ∧ (a ≠ b → ord l a b = true → ord l b a = true → False) ∧ (∀ c, c < l.names.length → transAt l a b c) ∧ boundN l true a b ≠ -1 ∧ boundN l false a b ≠ -1
theorem boundN_ge (l : Lat) (ab : Bool) (a b : Nat) : -1 ≤ boundN l ab a b := by
  unfold boundN
  split <;> omega
set_option maxRecDepth 100000 in
set_option maxHeartbeats 8000000 in
theorem formed_calls (l : Lat) (A B : Option Addr) (c d : Nat) (w : World) (h : LR w l A c B d) (hs : ∀ s ∈ l.names, s.size ≤ 9223372036854775807) :
    Calls Tryd.prog 12 #[.agg #[.slice A l.names.length c, .slice B l.order.length d]] w fun e w' => e = .returned (.bool (formedB l)) ∧ Below w.heap.size w w' := by
  have hb1 := below_alloc (Below.refl w.heap.size w) (.cells #[.slice A l.names.length c, .slice B l.order.length d] 25)
  have hF : ∀ W, Below (w.alloc (.cells #[.slice A l.names.length c, .slice B l.order.length d] 25)).heap.size (w.alloc (.cells #[.slice A l.names.length c, .slice B l.order.length d] 25)) W → W.cell? ⟨w.heap.size, 0, none⟩ = some (.slice A l.names.length c) ∧ W.cell? ⟨w.heap.size, 1, none⟩ = some (.slice B l.order.length d) ∧ LR W l A c B d ∧ Below w.heap.size w W := fun W hW => by
    have bk := blk_below (blk_new w _) hW
    exact ⟨(blk_cell bk 0).trans rfl, (blk_cell bk 1).trans rfl, h.below (below_step hb1 hW), below_step hb1 hW⟩
  have HF := Lib.hid hF
  have hsh := shaped_calls l A B c d _ (h.below hb1) hs
  have HSH := Lib.hid hsh
  have hmn := (C_len h.2.2.1).2
  have hmo := (C_len h.2.2.2).2
  clear hb1 hF hsh h hs
  go_enter Tryd.func12, Tryd.ntmps12
  go_wp2_with fail
  refine HSH.out.mono ?_
  rintro e w2 ⟨rfl, hb2⟩
  have HB2 := Lib.hid hb2
  clear hb2 HSH
  obtain ⟨c0, c1, hl, hbw⟩ := HF.out _ HB2.out
  have HBW := Lib.hid hbw
  clear hbw
  obtain ⟨t, ht⟩ : ∃ t, t = shapedB l := ⟨_, rfl⟩
  rw [← ht]
  have HT := Lib.hid ht
  clear ht
  cases t with
  | false =>
    have hres : formedB l = false := formedB_false fun f => by
      have := shapedB_true (l := l) ⟨f.few, f.sq, f.nm⟩
      rw [← HT.out] at this
      cases this
    have HRES := Lib.hid hres
    clear hres hl
    go_wp2
    go_ret
    exact ⟨ret_bool HRES.out.symm, HBW.out⟩
  | true =>
    have hsl := of_shapedB HT.out.symm
    have HSL := Lib.hid hsl
    have h1 := hsl.few.1
    have h8 := hsl.few.2
    have hon : l.order.length = l.names.length := hsl.sq
    have HON := Lib.hid hon
    have hsq : Sq l := Sq_of h8 hon (fun i hi => (hsl.nm i hi).2.2)
    have HSq := Lib.hid hsq
    have hJ : ∀ (a b : Nat) (W : World), a < l.names.length → b < l.names.length → Below (w.alloc (.cells #[.slice A l.names.length c, .slice B l.order.length d] 25)).heap.size (w.alloc (.cells #[.slice A l.names.length c, .slice B l.order.length d] 25)) W → Calls Tryd.prog 38 #[.agg #[.slice A l.names.length c, .slice B l.names.length d], .int .i64 a, .int .i64 b] W fun e w' => e = .returned (.int .i64 (boundN l true a b)) ∧ Below W.heap.size W w' := fun a b W ha hb hW => by
      exact RefLat.join_calls l A B c d a b W (HF.out W hW).2.2.1 HSq.out ha hb
    have HJ0 := Lib.hid hJ
    have hM : ∀ (a b : Nat) (W : World), a < l.names.length → b < l.names.length → Below (w.alloc (.cells #[.slice A l.names.length c, .slice B l.order.length d] 25)).heap.size (w.alloc (.cells #[.slice A l.names.length c, .slice B l.order.length d] 25)) W → Calls Tryd.prog 39 #[.agg #[.slice A l.names.length c, .slice B l.names.length d], .int .i64 a, .int .i64 b] W fun e w' => e = .returned (.int .i64 (boundN l false a b)) ∧ Below W.heap.size W w' := fun a b W ha hb hW => by
      exact RefLat.meet_calls l A B c d a b W (HF.out W hW).2.2.1 HSq.out ha hb
    have HM0 := Lib.hid hM
    clear hsl hon hsq hl hJ hM
    rw [HON.out] at c1
    go_wp2_with fail
    clear c0 c1
    go_loopg [4] (l.names.length) (fun g i wx => ∃ a : Nat, i = .int .i64 a ∧ a ≤ l.names.length ∧ g = l.names.length - a ∧ Hid (Below (w.alloc (.cells #[.slice A l.names.length c, .slice B l.order.length d] 25)).heap.size (w.alloc (.cells #[.slice A l.names.length c, .slice B l.order.length d] 25)) wx) ∧ Hid (∀ a', a' < a → ∀ b, b < l.names.length → abOK2 l a' b))
    case atStart => exact ⟨0, rfl, Nat.zero_le _, rfl, HB2, Lib.hid (fun j hj => absurd hj (by omega))⟩
    case round =>
      obtain ⟨a, rfl, ha, rfl, hbx, haa⟩ := hrel
      by_cases halt : a < l.names.length
      · go_wp2_with fail
        go_loopg [5] (l.names.length) (fun g i wx => ∃ b : Nat, i = .int .i64 b ∧ b ≤ l.names.length ∧ g = l.names.length - b ∧ Hid (Below (w.alloc (.cells #[.slice A l.names.length c, .slice B l.order.length d] 25)).heap.size (w.alloc (.cells #[.slice A l.names.length c, .slice B l.order.length d] 25)) wx) ∧ Hid (∀ b', b' < b → abOK2 l a b'))
        case atStart => exact ⟨0, rfl, Nat.zero_le _, rfl, hbx, Lib.hid (fun j hj => absurd hj (by omega))⟩
        case round =>
          obtain ⟨b, rfl, hb, rfl, hby, hab⟩ := hrel
          obtain ⟨wy, hwy⟩ : ∃ wy : World, wy = wr := ⟨_, rfl⟩
          subst hwy
          obtain ⟨c0, c1, hl, hbw⟩ := HF.out _ hby.out
          rw [HON.out] at c1
          have HBW := Lib.hid hbw
          clear hbw
          by_cases hblt : b < l.names.length
          · have hJ : ∀ W, Below wy.heap.size wy W → Calls Tryd.prog 38 #[.agg #[.slice A l.names.length c, .slice B l.names.length d], .int .i64 a, .int .i64 b] W fun e w' => e = .returned (.int .i64 (boundN l true a b)) ∧ Below W.heap.size W w' := fun W hW => HJ0.out a b W halt hblt (below_step hby.out hW)
            have HJ := Lib.hid hJ
            have hM := fun W hW => HM0.out a b W halt hblt hW
            have HM := Lib.hid hM
            obtain ⟨ad, R, cx, hBB, hrow, hcell⟩ := LR.sk hl HSq.out (by omega)
            subst hBB
            have qa := hrow a halt
            have qb := hrow b hblt
            have HCELL := Lib.hid hcell
            clear hJ hM hl hrow hcell
            obtain ⟨v1, hv1⟩ : ∃ v, v = ord l a b := ⟨_, rfl⟩
            have qab := HCELL.out a b halt hblt
            rw [← hv1] at qab
            have HV1 := Lib.hid hv1
            clear hv1
            by_cases hab_eq : a = b
            · have e3 : ((a : Int) == (b : Int)) = true := by simp [hab_eq]
              have e4 : ((a : Int) != (b : Int)) = false := by simp [hab_eq]
              have HEQ := Lib.hid hab_eq
              clear hab_eq
              cases v1 with
              | false =>
                have hres : formedB l = false := formedB_false fun f => by have := f.refl a halt; have h2 := HV1.out; rw [← HEQ.out, this] at h2; cases h2
                have HRES := Lib.hid hres
                clear hres
                go_wp2
                go_ret
                exact ⟨ret_bool HRES.out.symm, HBW.out⟩
              | true =>
                go_wp2_with fail
                go_loopg [6] (l.names.length) (fun g i wx => ∃ m : Nat, i = .int .i64 m ∧ m ≤ l.names.length ∧ g = l.names.length - m ∧ wy = wx ∧ Hid (∀ m', m' < m → transAt l a b m'))
                case atStart => exact ⟨0, rfl, Nat.zero_le _, rfl, rfl, Lib.hid (fun j hj => absurd hj (by omega))⟩
                case round =>
                  obtain ⟨m, rfl, hm, rfl, rfl, htr⟩ := hrel
                  by_cases hmlt : m < l.names.length
                  · obtain ⟨v3, hv3⟩ : ∃ v, v = ord l b m := ⟨_, rfl⟩
                    obtain ⟨v4, hv4⟩ : ∃ v, v = ord l a m := ⟨_, rfl⟩
                    have qbm := HCELL.out b m hblt hmlt
                    have qam := HCELL.out a m halt hmlt
                    rw [← hv3] at qbm
                    rw [← hv4] at qam
                    have HV3 := Lib.hid hv3
                    have HV4 := Lib.hid hv4
                    clear hv3 hv4
                    by_cases hbad : v3 = true ∧ v4 = false
                    · obtain ⟨rfl, rfl⟩ := hbad
                      have hres : formedB l = false := formedB_false fun f => by have := f.trans a b m halt hblt hmlt HV1.out.symm HV3.out.symm; rw [← HV4.out] at this; cases this
                      have HRES := Lib.hid hres
                      clear hres
                      go_wp2
                      go_ret
                      exact ⟨ret_bool HRES.out.symm, HBW.out⟩
                    · have htr2 : ∀ m', m' < m + 1 → transAt l a b m' := fun m' hm' => by
                        rcases Nat.lt_or_ge m' m with h | h
                        · exact htr.out m' h
                        · obtain rfl : m' = m := by omega
                          intro _ h2
                          rw [← HV3.out] at h2
                          rw [← HV4.out]
                          cases v4
                          · exact absurd ⟨h2, rfl⟩ hbad
                          · rfl
                      have HTR := Lib.hid htr2
                      clear htr2
                      cases v3 with
                      | false =>
                        clear hbad
                        go_wp2
                        go_roundg (l.names.length - (m + 1))
                        case measure => omega
                        case rel => exact ⟨m + 1, by go_num, by omega, rfl, rfl, HTR⟩
                      | true =>
                        cases v4 with
                        | false => exact absurd ⟨rfl, rfl⟩ hbad
                        | true =>
                          clear hbad
                          go_wp2
                          go_roundg (l.names.length - (m + 1))
                          case measure => omega
                          case rel => exact ⟨m + 1, by go_num, by omega, rfl, rfl, HTR⟩
                  · obtain rfl : m = l.names.length := by omega
                    have TRS := htr
                    clear qa qb
                    go_wp2_with fail
                    refine (HJ.out _ (Below.refl _ _)).mono ?_
                    rintro e w6 ⟨rfl, hb6⟩
                    have hb6' := below_step hby.out hb6
                    have HB6 := Lib.hid hb6'
                    obtain ⟨T, hT⟩ : ∃ T, T = boundN l true a b := ⟨_, rfl⟩
                    rw [← hT]
                    have HTT := Lib.hid hT
                    clear hT hb6 hb6' c0 c1 qab
                    obtain ⟨c0, c1, hl, hbw⟩ := HF.out _ HB6.out
                    rw [HON.out] at c1
                    have HBW6 := Lib.hid hbw
                    clear hbw hl
                    by_cases hT1 : T < 0
                    · have hres : formedB l = false := formedB_false fun f => by
                        have h2 := (f.bounds a b halt hblt).1
                        have h3 := boundN_ge l true a b
                        rw [← HTT.out] at h2 h3
                        omega
                      have HRES := Lib.hid hres
                      clear hres
                      go_wp2
                      go_ret
                      exact ⟨ret_bool HRES.out.symm, HBW6.out⟩
                    · have hT2 : 0 ≤ T := by omega
                      clear hT1
                      have hcM := HM.out _ HB6.out
                      obtain ⟨U, hU⟩ : ∃ T, T = boundN l false a b := ⟨_, rfl⟩
                      rw [← hU] at hcM
                      have HCM := Lib.hid hcM
                      have HUU := Lib.hid hU
                      clear hcM hU
                      by_cases hU1 : U < 0
                      · have hres : formedB l = false := formedB_false fun f => by
                          have h2 := (f.bounds a b halt hblt).2
                          have h3 := boundN_ge l false a b
                          rw [← HUU.out] at h2 h3
                          omega
                        have HRES := Lib.hid hres
                        clear hres
                        go_wp2_with (go_at_call 39; refine HCM.out.mono ?_; rintro e w7 ⟨rfl, hb7⟩)
                        go_ret
                        exact ⟨ret_bool HRES.out.symm, below_step HBW6.out hb7⟩
                      · have hU2 : 0 ≤ U := by omega
                        clear hU1
                        have hab2 : ∀ b', b' < b + 1 → abOK2 l a b' := fun b' hb' => by
                          rcases Nat.lt_or_ge b' b with h | h
                          · exact hab.out b' h
                          · obtain rfl : b' = b := by omega
                            exact ⟨(fun _ => by have h2 := HV1.out; rw [← HEQ.out] at h2; exact h2.symm), (fun hne => absurd HEQ.out hne), TRS.out, by rw [← HTT.out]; omega, by rw [← HUU.out]; omega⟩
                        have HAB := Lib.hid hab2
                        clear hab2
                        go_wp2_with (go_at_call 39; refine HCM.out.mono ?_; rintro e w7 ⟨rfl, hb7⟩; have hb7' := below_step HB6.out hb7; have HB7 := Lib.hid hb7'; clear hb7 hb7')
                        go_roundg (l.names.length - (b + 1))
                        case measure => omega
                        case rel => exact ⟨b + 1, by go_num, by omega, rfl, HB7, HAB⟩
            · have e3 : ((a : Int) == (b : Int)) = false := by rw [beq_eq_false_iff_ne]; omega
              have e4 : ((a : Int) != (b : Int)) = true := by rw [bne_iff_ne]; omega
              have HNE := Lib.hid hab_eq
              clear hab_eq
              cases v1 with
              | false =>
                go_wp2_with fail
                go_loopg [6] (l.names.length) (fun g i wx => ∃ m : Nat, i = .int .i64 m ∧ m ≤ l.names.length ∧ g = l.names.length - m ∧ wy = wx ∧ Hid (∀ m', m' < m → transAt l a b m'))
                case atStart => exact ⟨0, rfl, Nat.zero_le _, rfl, rfl, Lib.hid (fun j hj => absurd hj (by omega))⟩
                case round =>
                  obtain ⟨m, rfl, hm, rfl, rfl, htr⟩ := hrel
                  by_cases hmlt : m < l.names.length
                  · have htr2 : ∀ m', m' < m + 1 → transAt l a b m' := fun m' _ h => by rw [← HV1.out] at h; cases h
                    have HTR := Lib.hid htr2
                    clear htr2
                    go_wp2
                    go_roundg (l.names.length - (m + 1))
                    case measure => omega
                    case rel => exact ⟨m + 1, by go_num, by omega, rfl, rfl, HTR⟩
                  · obtain rfl : m = l.names.length := by omega
                    have TRS := htr
                    clear qa qb
                    go_wp2_with fail
                    refine (HJ.out _ (Below.refl _ _)).mono ?_
                    rintro e w6 ⟨rfl, hb6⟩
                    have hb6' := below_step hby.out hb6
                    have HB6 := Lib.hid hb6'
                    obtain ⟨T, hT⟩ : ∃ T, T = boundN l true a b := ⟨_, rfl⟩
                    rw [← hT]
                    have HTT := Lib.hid hT
                    clear hT hb6 hb6' c0 c1 qab
                    obtain ⟨c0, c1, hl, hbw⟩ := HF.out _ HB6.out
                    rw [HON.out] at c1
                    have HBW6 := Lib.hid hbw
                    clear hbw hl
                    by_cases hT1 : T < 0
                    · have hres : formedB l = false := formedB_false fun f => by
                        have h2 := (f.bounds a b halt hblt).1
                        have h3 := boundN_ge l true a b
                        rw [← HTT.out] at h2 h3
                        omega
                      have HRES := Lib.hid hres
                      clear hres
                      go_wp2
                      go_ret
                      exact ⟨ret_bool HRES.out.symm, HBW6.out⟩
                    · have hT2 : 0 ≤ T := by omega
                      clear hT1
                      have hcM := HM.out _ HB6.out
                      obtain ⟨U, hU⟩ : ∃ T, T = boundN l false a b := ⟨_, rfl⟩
                      rw [← hU] at hcM
                      have HCM := Lib.hid hcM
                      have HUU := Lib.hid hU
                      clear hcM hU
                      by_cases hU1 : U < 0
                      · have hres : formedB l = false := formedB_false fun f => by
                          have h2 := (f.bounds a b halt hblt).2
                          have h3 := boundN_ge l false a b
                          rw [← HUU.out] at h2 h3
                          omega
                        have HRES := Lib.hid hres
                        clear hres
                        go_wp2_with (go_at_call 39; refine HCM.out.mono ?_; rintro e w7 ⟨rfl, hb7⟩)
                        go_ret
                        exact ⟨ret_bool HRES.out.symm, below_step HBW6.out hb7⟩
                      · have hU2 : 0 ≤ U := by omega
                        clear hU1
                        have hab2 : ∀ b', b' < b + 1 → abOK2 l a b' := fun b' hb' => by
                          rcases Nat.lt_or_ge b' b with h | h
                          · exact hab.out b' h
                          · obtain rfl : b' = b := by omega
                            exact ⟨(fun h => absurd h HNE.out), (fun _ h => by rw [← HV1.out] at h; cases h), TRS.out, by rw [← HTT.out]; omega, by rw [← HUU.out]; omega⟩
                        have HAB := Lib.hid hab2
                        clear hab2
                        go_wp2_with (go_at_call 39; refine HCM.out.mono ?_; rintro e w7 ⟨rfl, hb7⟩; have hb7' := below_step HB6.out hb7; have HB7 := Lib.hid hb7'; clear hb7 hb7')
                        go_roundg (l.names.length - (b + 1))
                        case measure => omega
                        case rel => exact ⟨b + 1, by go_num, by omega, rfl, HB7, HAB⟩
              | true =>
                obtain ⟨v2, hv2⟩ : ∃ v, v = ord l b a := ⟨_, rfl⟩
                have qba := HCELL.out b a hblt halt
                rw [← hv2] at qba
                have HV2 := Lib.hid hv2
                clear hv2
                cases v2 with
                | true =>
                  have hres : formedB l = false := formedB_false fun f => f.anti a b halt hblt HNE.out HV1.out.symm HV2.out.symm
                  have HRES := Lib.hid hres
                  clear hres
                  go_wp2
                  go_ret
                  exact ⟨ret_bool HRES.out.symm, HBW.out⟩
                | false =>
                  go_wp2_with fail
                  go_loopg [6] (l.names.length) (fun g i wx => ∃ m : Nat, i = .int .i64 m ∧ m ≤ l.names.length ∧ g = l.names.length - m ∧ wy = wx ∧ Hid (∀ m', m' < m → transAt l a b m'))
                  case atStart => exact ⟨0, rfl, Nat.zero_le _, rfl, rfl, Lib.hid (fun j hj => absurd hj (by omega))⟩
                  case round =>
                    obtain ⟨m, rfl, hm, rfl, rfl, htr⟩ := hrel
                    by_cases hmlt : m < l.names.length
                    · obtain ⟨v3, hv3⟩ : ∃ v, v = ord l b m := ⟨_, rfl⟩
                      obtain ⟨v4, hv4⟩ : ∃ v, v = ord l a m := ⟨_, rfl⟩
                      have qbm := HCELL.out b m hblt hmlt
                      have qam := HCELL.out a m halt hmlt
                      rw [← hv3] at qbm
                      rw [← hv4] at qam
                      have HV3 := Lib.hid hv3
                      have HV4 := Lib.hid hv4
                      clear hv3 hv4
                      by_cases hbad : v3 = true ∧ v4 = false
                      · obtain ⟨rfl, rfl⟩ := hbad
                        have hres : formedB l = false := formedB_false fun f => by have := f.trans a b m halt hblt hmlt HV1.out.symm HV3.out.symm; rw [← HV4.out] at this; cases this
                        have HRES := Lib.hid hres
                        clear hres
                        go_wp2
                        go_ret
                        exact ⟨ret_bool HRES.out.symm, HBW.out⟩
                      · have htr2 : ∀ m', m' < m + 1 → transAt l a b m' := fun m' hm' => by
                          rcases Nat.lt_or_ge m' m with h | h
                          · exact htr.out m' h
                          · obtain rfl : m' = m := by omega
                            intro _ h2
                            rw [← HV3.out] at h2
                            rw [← HV4.out]
                            cases v4
                            · exact absurd ⟨h2, rfl⟩ hbad
                            · rfl
                        have HTR := Lib.hid htr2
                        clear htr2
                        cases v3 with
                        | false =>
                          clear hbad
                          go_wp2
                          go_roundg (l.names.length - (m + 1))
                          case measure => omega
                          case rel => exact ⟨m + 1, by go_num, by omega, rfl, rfl, HTR⟩
                        | true =>
                          cases v4 with
                          | false => exact absurd ⟨rfl, rfl⟩ hbad
                          | true =>
                            clear hbad
                            go_wp2
                            go_roundg (l.names.length - (m + 1))
                            case measure => omega
                            case rel => exact ⟨m + 1, by go_num, by omega, rfl, rfl, HTR⟩
                    · obtain rfl : m = l.names.length := by omega
                      have TRS := htr
                      clear qa qb
                      go_wp2_with fail
                      refine (HJ.out _ (Below.refl _ _)).mono ?_
                      rintro e w6 ⟨rfl, hb6⟩
                      have hb6' := below_step hby.out hb6
                      have HB6 := Lib.hid hb6'
                      obtain ⟨T, hT⟩ : ∃ T, T = boundN l true a b := ⟨_, rfl⟩
                      rw [← hT]
                      have HTT := Lib.hid hT
                      clear hT hb6 hb6' c0 c1 qab qba
                      obtain ⟨c0, c1, hl, hbw⟩ := HF.out _ HB6.out
                      rw [HON.out] at c1
                      have HBW6 := Lib.hid hbw
                      clear hbw hl
                      by_cases hT1 : T < 0
                      · have hres : formedB l = false := formedB_false fun f => by
                          have h2 := (f.bounds a b halt hblt).1
                          have h3 := boundN_ge l true a b
                          rw [← HTT.out] at h2 h3
                          omega
                        have HRES := Lib.hid hres
                        clear hres
                        go_wp2
                        go_ret
                        exact ⟨ret_bool HRES.out.symm, HBW6.out⟩
                      · have hT2 : 0 ≤ T := by omega
                        clear hT1
                        have hcM := HM.out _ HB6.out
                        obtain ⟨U, hU⟩ : ∃ T, T = boundN l false a b := ⟨_, rfl⟩
                        rw [← hU] at hcM
                        have HCM := Lib.hid hcM
                        have HUU := Lib.hid hU
                        clear hcM hU
                        by_cases hU1 : U < 0
                        · have hres : formedB l = false := formedB_false fun f => by
                            have h2 := (f.bounds a b halt hblt).2
                            have h3 := boundN_ge l false a b
                            rw [← HUU.out] at h2 h3
                            omega
                          have HRES := Lib.hid hres
                          clear hres
                          go_wp2_with (go_at_call 39; refine HCM.out.mono ?_; rintro e w7 ⟨rfl, hb7⟩)
                          go_ret
                          exact ⟨ret_bool HRES.out.symm, below_step HBW6.out hb7⟩
                        · have hU2 : 0 ≤ U := by omega
                          clear hU1
                          have hab2 : ∀ b', b' < b + 1 → abOK2 l a b' := fun b' hb' => by
                            rcases Nat.lt_or_ge b' b with h | h
                            · exact hab.out b' h
                            · obtain rfl : b' = b := by omega
                              exact ⟨(fun h => absurd h HNE.out), (fun _ _ h => by rw [← HV2.out] at h; cases h), TRS.out, by rw [← HTT.out]; omega, by rw [← HUU.out]; omega⟩
                          have HAB := Lib.hid hab2
                          clear hab2
                          go_wp2_with (go_at_call 39; refine HCM.out.mono ?_; rintro e w7 ⟨rfl, hb7⟩; have hb7' := below_step HB6.out hb7; have HB7 := Lib.hid hb7'; clear hb7 hb7')
                          go_roundg (l.names.length - (b + 1))
                          case measure => omega
                          case rel => exact ⟨b + 1, by go_num, by omega, rfl, HB7, HAB⟩
          · obtain rfl : b = l.names.length := by omega
            have haa2 : ∀ a', a' < a + 1 → ∀ b, b < l.names.length → abOK2 l a' b := fun a' ha' => by
              rcases Nat.lt_or_ge a' a with h | h
              · exact haa.out a' h
              · obtain rfl : a' = a := by omega
                exact hab.out
            have HAA := Lib.hid haa2
            clear haa2 hl
            go_wp2
            go_roundg (l.names.length - (a + 1))
            case measure => omega
            case rel => exact ⟨a + 1, by go_num, by omega, rfl, hby, HAA⟩
      · obtain rfl : a = l.names.length := by omega
        have hres : formedB l = true := formedB_true ⟨⟨h1, h8⟩, HON.out, HSL.out.nm, fun i hi => (haa.out i hi i hi).1 rfl, fun a b ha hb hne h1 h2 => (haa.out a ha b hb).2.1 hne h1 h2, fun a b c ha hb hc h1 h2 => (haa.out a ha b hb).2.2.1 c hc h1 h2, fun a b ha hb => (haa.out a ha b hb).2.2.2⟩
        have HRES := Lib.hid hres
        clear hres
        obtain ⟨_, _, _, hbw⟩ := HF.out _ hbx.out
        have HBWz := Lib.hid hbw
        clear hbw
        go_wp2
        go_ret
        exact ⟨ret_bool HRES.out.symm, HBWz.out⟩
end Go.Proofs.YtokogcfcaehifaaDoor.RefFormed
