/- slices.Contains over strings, lattice.Formed and what stands on it. Condition: the two tables of unicode/utf8 are laid. -/
import Derived.Test.YtokogcfcaehifaaDoorLat
import Derived.Test.YtokogcfcaehifaaDoorLatSpec2
namespace Go.Proofs.YtokogcfcaehifaaDoor.LatF
set_option linter.unusedVariables false
open Go.RowKit Go.Proofs.YtokogcfcaehifaaDoorW.PrintWords Go.Proofs.YtokogcfcaehifaaDoor.Aux Go.Proofs.YtokogcfcaehifaaDoor.LatSpec Go.Proofs.YtokogcfcaehifaaDoor.LatWalk
set_option maxHeartbeats 800000 in
theorem index_calls (xs : List ByteArray) (A : Option Addr) (c : Nat) (v : ByteArray) (w : World) (h : Kd.string.C w A xs.length xs) :
    Calls Tryd.prog 51 #[.slice A xs.length c, .string v] w fun e w' => e = .returned (.int .i64 (idxS xs v)) ∧ w = w' := by
  have H := Lib.hid h
  have hm := (C_len h).2
  clear h
  go_enter Tryd.func51, Tryd.ntmps51
  go_wp2_with fail
  go_loopg [8] (xs.length) (fun g i wr => ∃ k : Nat, i = .int .i64 k ∧ k ≤ xs.length ∧ g = xs.length - k ∧ w = wr ∧ Hid (∀ j, j < k → xs.getD j ByteArray.empty ≠ v))
  case atStart => exact ⟨0, rfl, Nat.zero_le _, rfl, rfl, Lib.hid (fun j hj => absurd hj (by omega))⟩
  case round =>
    obtain ⟨k, rfl, hk, rfl, rfl, hall⟩ := hrel
    by_cases hlt : k < xs.length
    · obtain ⟨ad, rfl, hc⟩ := C_str_get H.out hlt
      generalize hx : xs.getD k ByteArray.empty = x at *
      have HX := Lib.hid hx
      clear hx
      by_cases he : v = x
      · subst he
        have hs := str_eq v
        have hres := idxS_found hlt HX.out hall.out
        have HRES := Lib.hid hres
        clear hres
        go_wp2
        go_ret
        exact ⟨ret_int HRES.out.symm, rfl⟩
      · have hs := str_ne he
        have hno : ∀ j, j < k + 1 → xs.getD j ByteArray.empty ≠ v := fun j hj => by
          rcases Nat.lt_or_ge j k with h | h
          · exact hall.out j h
          · obtain rfl : j = k := by omega
            rw [HX.out]
            exact fun e => he e.symm
        have HNO := Lib.hid hno
        clear hno he
        go_wp2
        go_roundg (xs.length - (k + 1))
        case measure => omega
        case rel => exact ⟨k + 1, by go_num, by omega, rfl, rfl, HNO⟩
    · obtain rfl : k = xs.length := by omega
      have hres := idxS_none hall.out
      have HRES := Lib.hid hres
      clear hres
      go_wp2
      go_ret
      exact ⟨ret_int HRES.out.symm, rfl⟩
theorem contains_calls (xs : List ByteArray) (A : Option Addr) (c : Nat) (v : ByteArray) (w : World) (t : Bool) (h : Kd.string.C w A xs.length xs) (ht : t = true ↔ v ∈ xs) :
    Calls Tryd.prog 35 #[.slice A xs.length c, .string v] w fun e w' => e = .returned (.bool t) ∧ w = w' := by
  have H := Lib.hid h
  have hm : t = true ↔ 0 ≤ idxS xs v := by rw [ht, idxS_mem]
  clear h ht
  have hcall := index_calls xs A c v w H.out
  generalize idxS xs v = i at hm hcall
  have HC := Lib.hid hcall
  clear hcall
  cases t with
  | true =>
    have h0 : 0 ≤ i := by simpa using hm
    clear hm
    go_enter Tryd.func35, Tryd.ntmps35
    go_wp2_with (go_at_call 51; refine HC.out.mono ?_; rintro e wx ⟨rfl, rfl⟩)
    go_ret
    exact ⟨ret_bool (by simp), rfl⟩
  | false =>
    have h0 : i < 0 := by simpa using hm
    clear hm
    go_enter Tryd.func35, Tryd.ntmps35
    go_wp2_with (go_at_call 51; refine HC.out.mono ?_; rintro e wx ⟨rfl, rfl⟩)
    go_ret
    exact ⟨ret_bool (by simp; exact h0), rfl⟩
/-- What is read of a square, row by row. -/
theorem LR.sk {w : World} {l : Lat} {A B : Option Addr} {c d : Nat} (h : LR w l A c B d) (hq : Sq l) (hn : 0 < l.names.length) :
    ∃ (ad : Addr) (R : Nat → Addr) (cx : Nat → Nat), B = some ad ∧ (∀ x, x < l.names.length → w.cell? (ad.add x) = some (.slice (some (R x)) l.names.length (cx x))) ∧ (∀ x y, x < l.names.length → y < l.names.length → w.cell? (Addr.add (R x) y) = some (.bool (ord l x y))) := by
  have h0 : ∀ x, x < l.names.length → ∃ (p : Addr × Nat), ∃ ad, B = some ad ∧ w.cell? (ad.add x) = some (.slice (some p.1) l.names.length p.2) ∧ ∀ y, y < l.names.length → w.cell? (p.1.add y) = some (.bool (ord l x y)) := fun x hx => by
    have hrow := hq.2.1 x hx
    obtain ⟨ad, A', c', e1, h1, _, h3⟩ := C_slice_get h.2.2.2 (show x < l.order.length by rw [hq.1]; exact hx)
    rw [hrow] at h1 h3
    obtain ⟨ad', e2, _⟩ := C_bool_get h3 hn
    subst e2
    exact ⟨(ad', c'), ad, e1, h1, fun y hy => by
      obtain ⟨ad2, e3, h4⟩ := C_bool_get h3 hy
      injection e3 with e3
      subst e3
      exact h4⟩
  obtain ⟨_, ad, e1, _, _⟩ := h0 0 hn
  refine ⟨ad, fun x => if hx : x < l.names.length then (Classical.choose (h0 x hx)).1 else ad, fun x => if hx : x < l.names.length then (Classical.choose (h0 x hx)).2 else 0, e1, fun x hx => ?_, fun x y hx hy => ?_⟩
  · obtain ⟨ad2, e2, h1, _⟩ := Classical.choose_spec (h0 x hx)
    rw [e1] at e2
    injection e2 with e2
    subst e2
    simp only [hx, dif_pos]
    exact h1
  · obtain ⟨ad2, e2, _, h2⟩ := Classical.choose_spec (h0 x hx)
    simp only [hx, dif_pos]
    exact h2 y hy
theorem Sq_of {l : Lat} (h8 : l.names.length ≤ 8) (hsq : l.order.length = l.names.length) (h : ∀ i, i < l.names.length → (l.order.getD i []).length = l.names.length) : Sq l := ⟨hsq, h, by omega⟩
set_option maxRecDepth 100000 in
set_option maxHeartbeats 4000000 in
theorem formed_calls (l : Lat) (A B : Option Addr) (c d : Nat) (w : World) (h : LR w l A c B d) (hs : ∀ s ∈ l.names, s.size ≤ 9223372036854775807) (hT : Lib.Utf8Tabs 0 1 w) (hTB : ∀ W, Below w.heap.size w W → Lib.Utf8Tabs 0 1 W) :
    Calls Tryd.prog 11 #[.agg #[.slice A l.names.length c, .slice B l.order.length d]] w fun e w' => e = .returned (.bool (formedB l)) ∧ Below w.heap.size w w' := by
  have hb1 := below_alloc (Below.refl w.heap.size w) (.cells #[.slice A l.names.length c, .slice B l.order.length d] 25)
  have hF : ∀ W, Below (w.alloc (.cells #[.slice A l.names.length c, .slice B l.order.length d] 25)).heap.size (w.alloc (.cells #[.slice A l.names.length c, .slice B l.order.length d] 25)) W → W.cell? ⟨w.heap.size, 0, none⟩ = some (.slice A l.names.length c) ∧ W.cell? ⟨w.heap.size, 1, none⟩ = some (.slice B l.order.length d) ∧ LR W l A c B d ∧ Below w.heap.size w W := fun W hW => by
    have bk := blk_below (blk_new w _) hW
    exact ⟨(blk_cell bk 0).trans rfl, (blk_cell bk 1).trans rfl, h.below (below_step hb1 hW), below_step hb1 hW⟩
  have HF := Lib.hid hF
  have HTB := Lib.hid hTB
  have HS := Lib.hid hs
  have hmn := (C_len h.2.2.1).2
  have hmo := (C_len h.2.2.2).2
  clear hb1 hF hT hTB hs h
  by_cases hn : 1 ≤ l.names.length ∧ l.names.length ≤ 8 ∧ l.order.length = l.names.length
  · obtain ⟨h1, h8, hsq⟩ := hn
    have e1 : ((l.order.length : Int) != (l.names.length : Int)) = false := by simp [hsq]
    have HSQ := Lib.hid hsq
    clear hsq
    have d1 : decide ((l.names.length : Int) < 1) = false := by simp; omega
    have d8 : decide ((8 : Int) < (l.names.length : Int)) = false := by simp; omega
    go_enter Tryd.func11, Tryd.ntmps11
    go_wp2_with fail
    obtain ⟨i0, hi0, hi1⟩ := Option.map_eq_some_iff.1 (show (Tryd.prog.info? 9).map (fun i => i.size) = some 1 by kernel_rfl)
    go_loopg [30] (l.names.length) (fun g i wr => ∃ k : Nat, i = .int .i64 k ∧ k ≤ l.names.length ∧ g = l.names.length - k ∧ Hid (Below (w.alloc (.cells #[.slice A l.names.length c, .slice B l.order.length d] 25)).heap.size (w.alloc (.cells #[.slice A l.names.length c, .slice B l.order.length d] 25)) wr) ∧ Hid (∀ j, j < k → nmOK l j ∧ ord l j j = true))
    case atStart => exact ⟨0, rfl, Nat.zero_le _, rfl, Lib.hid (Below.refl _ _), Lib.hid (fun j hj => absurd hj (by omega))⟩
    case round =>
      obtain ⟨k, rfl, hk, rfl, hbr, hall⟩ := hrel
      obtain ⟨c0, c1, hl, hbw⟩ := HF.out wr hbr.out
      have HBW := Lib.hid hbw
      clear hbw
      by_cases hlt : k < l.names.length
      · obtain ⟨ad, hA, hx⟩ := C_str_get hl.2.2.1 hlt
        have hslice := (print_take_of (P := Tryd.prog) Value.string ByteArray.empty 22 9 .i64 Tryd.underlying22 hi0 hi1 A c l.names k (by omega) (by omega) hl.1).1
        rw [Int.toNat_natCast] at hslice
        subst hA
        generalize hxe : l.names.getD k ByteArray.empty = x at *
        have hmem : x ∈ l.names := by rw [← hxe, List.getD_eq_getElem?_getD, List.getElem?_eq_getElem hlt]; exact List.getElem_mem hlt
        have hsx := HS.out x hmem
        have hname := LatName.name_calls x wr (by omega) (HTB.out wr HBW.out)
        have HNAME := Lib.hid hname
        have HX := Lib.hid hxe
        clear hname hxe hmem hl
        cases hv : nameP x.data.toList with
        | false =>
          have hres : formedB l = false := formedB_false fun f => by
            have := (f.nm k hlt).1
            rw [HX.out, hv] at this
            cases this
          have HRES := Lib.hid hres
          rw [hv] at HNAME
          clear hres hv
          go_wp2_with (go_at_call 13; refine HNAME.out.mono ?_; rintro e w3 ⟨rfl, hb3⟩)
          go_ret
          exact ⟨ret_bool HRES.out.symm, below_step HBW.out hb3⟩
        | true =>
          rw [hv] at HNAME
          have HV := Lib.hid hv
          clear hv
          go_wp2_with fail
          refine HNAME.out.mono ?_
          rintro e w3 ⟨rfl, hb3⟩
          have hb3' := below_step hbr.out hb3
          have HB3 := Lib.hid hb3'
          clear c0 c1 hx hb3 hb3'
          obtain ⟨c0, c1, hl, hbw⟩ := HF.out w3 HB3.out
          have HBW3 := Lib.hid hbw
          have hlt' : k ≤ l.names.length := hk
          have hko : k < l.order.length := by rw [HSQ.out]; exact hlt
          have hCt := Kd.C_take hl.2.2.1 hlt'
          have HCT := Lib.hid hCt
          have htl : (l.names.take k).length = k := by rw [List.length_take]; omega
          obtain ⟨adB, A', c', hBB, hrow, hrl, hrC⟩ := C_slice_get hl.2.2.2 (show k < l.order.length by rw [HSQ.out]; exact hlt)
          subst hBB
          have HRC := Lib.hid hrC
          clear hbw hCt hl hrC
          generalize hrow2 : (l.order.getD k []).length = rl at *
          have HROW := Lib.hid hrow2
          clear hrow2
          by_cases hmem : x ∈ l.names.take k
          · have hcon := contains_calls (l.names.take k) (some ad) c x w3 true HCT.out ⟨fun _ => hmem, fun _ => rfl⟩
            rw [htl] at hcon
            have HCON := Lib.hid hcon
            have hres : formedB l = false := formedB_false fun f => (f.nm k hlt).2.1 (by rw [HX.out]; exact hmem)
            have HRES := Lib.hid hres
            clear hres
            clear hcon hmem htl
            go_wp2_with (go_at_call 35; refine HCON.out.mono ?_; rintro e w4 ⟨rfl, rfl⟩)
            go_ret
            exact ⟨ret_bool HRES.out.symm, HBW3.out⟩
          · have hcon := contains_calls (l.names.take k) (some ad) c x w3 false HCT.out ⟨fun h => Bool.noConfusion h, fun h => absurd h hmem⟩
            rw [htl] at hcon
            have HCON := Lib.hid hcon
            have HMEM := Lib.hid hmem
            clear hcon hmem htl
            by_cases hr : rl = l.names.length
            · have e2 : ((rl : Int) != (l.names.length : Int)) = false := by simp [hr]
              have HR := Lib.hid hr
              obtain ⟨ad', hA', hcell⟩ := C_bool_get HRC.out (show k < rl by omega)
              subst hA'
              have hcell2 : w3.cell? (ad'.add k) = some (.bool (ord l k k)) := hcell
              clear hcell hr
              have hrl2 : k < rl := by have := HR.out; omega
              cases ho : ord l k k with
              | false =>
                rw [ho] at hcell2
                have hres : formedB l = false := formedB_false fun f => by have := f.refl k hlt; rw [ho] at this; cases this
                have HRES := Lib.hid hres
                clear hres
                clear ho
                go_wp2_with (go_at_call 35; refine HCON.out.mono ?_; rintro e w4 ⟨rfl, rfl⟩)
                go_ret
                exact ⟨ret_bool HRES.out.symm, HBW3.out⟩
              | true =>
                rw [ho] at hcell2
                have hall2 : ∀ j, j < k + 1 → nmOK l j ∧ ord l j j = true := fun j hj => by
                  rcases Nat.lt_or_ge j k with h | h
                  · exact hall.out j h
                  · obtain rfl : j = k := by omega
                    refine ⟨⟨by rw [HX.out]; exact HV.out, by rw [HX.out]; exact HMEM.out, by rw [HROW.out]; exact HR.out⟩, ho⟩
                have HALL2 := Lib.hid hall2
                clear hall2 ho
                go_wp2_with (go_at_call 35; refine HCON.out.mono ?_; rintro e w4 ⟨rfl, rfl⟩)
                go_roundg (l.names.length - (k + 1))
                case measure => omega
                case rel => exact ⟨k + 1, by go_num, by omega, rfl, HB3, HALL2⟩
            · have e2 : ((rl : Int) != (l.names.length : Int)) = true := by rw [bne_iff_ne]; omega
              have hres : formedB l = false := formedB_false fun f => hr (by rw [← HROW.out]; exact (f.nm k hlt).2.2)
              have HRES := Lib.hid hres
              clear hres
              clear hr
              go_wp2_with (go_at_call 35; refine HCON.out.mono ?_; rintro e w4 ⟨rfl, rfl⟩)
              go_ret
              exact ⟨ret_bool HRES.out.symm, HBW3.out⟩
      · obtain rfl : k = l.names.length := by omega
        have hsq : Sq l := Sq_of h8 HSQ.out (fun i hi => (hall.out i hi).1.2.2)
        have HSq := Lib.hid hsq
        obtain ⟨adB, R, cx, hBB, hrow, hcell⟩ := LR.sk hl hsq (by omega)
        have hon : l.order.length = l.names.length := HSQ.out
        rw [hon] at c1
        subst hBB
        have HROW := Lib.hid hrow
        have HCELL := Lib.hid hcell
        clear hsq hrow hcell hon hl
        go_wp2_with fail
        go_loopg [69] (l.names.length) (fun g i wx => ∃ a : Nat, i = .int .i64 a ∧ a ≤ l.names.length ∧ g = l.names.length - a ∧ wr = wx ∧ Hid (∀ a', a' < a → ∀ b, b < l.names.length → abOK l a' b))
        case atStart => exact ⟨0, rfl, Nat.zero_le _, rfl, rfl, Lib.hid (fun j hj => absurd hj (by omega))⟩
        case round =>
          obtain ⟨a, rfl, ha, rfl, rfl, haa⟩ := hrel
          by_cases halt : a < l.names.length
          · have qa := HROW.out a halt
            go_wp2_with fail
            go_loopg [73] (l.names.length) (fun g i wx => ∃ b : Nat, i = .int .i64 b ∧ b ≤ l.names.length ∧ g = l.names.length - b ∧ wr = wx ∧ Hid (∀ b', b' < b → abOK l a b'))
            case atStart => exact ⟨0, rfl, Nat.zero_le _, rfl, rfl, Lib.hid (fun j hj => absurd hj (by omega))⟩
            case round =>
              obtain ⟨b, rfl, hb, rfl, rfl, hab⟩ := hrel
              by_cases hblt : b < l.names.length
              · have qb := HROW.out b hblt
                obtain ⟨v1, hv1⟩ : ∃ v, v = ord l a b := ⟨_, rfl⟩
                have qab := HCELL.out a b halt hblt
                rw [← hv1] at qab
                have HV1 := Lib.hid hv1
                clear hv1
                by_cases hab_eq : a = b
                · have e3 : ((a : Int) != (b : Int)) = false := by simp [hab_eq]
                  have HEQ := Lib.hid hab_eq
                  clear hab_eq
                  cases v1 with
                  | false =>
                    go_wp2_with fail
                    go_loopg [100] (l.names.length) (fun g i wx => ∃ m : Nat, i = .int .i64 m ∧ m ≤ l.names.length ∧ g = l.names.length - m ∧ wr = wx ∧ Hid (∀ m', m' < m → transAt l a b m'))
                    case atStart => exact ⟨0, rfl, Nat.zero_le _, rfl, rfl, Lib.hid (fun j hj => absurd hj (by omega))⟩
                    case round =>
                      obtain ⟨m, rfl, hm, rfl, rfl, htr⟩ := hrel
                      by_cases hmlt : m < l.names.length
                      · have htr2 : ∀ m', m' < m + 1 → transAt l a b m' := fun m' _ h => by rw [← HV1.out] at h; cases h
                        have HTR := Lib.hid htr2
                        clear htr2
                        go_wp2
                        go_roundg (l.names.length - (m + 1))
                        case measure => omega
                        case rel => exact ⟨m + 1, by go_num, by omega, rfl, rfl, HTR⟩
                      · obtain rfl : m = l.names.length := by omega
                        have hab2 : ∀ b', b' < b + 1 → abOK l a b' := fun b' hb' => by
                          rcases Nat.lt_or_ge b' b with h | h
                          · exact hab.out b' h
                          · obtain rfl : b' = b := by omega
                            exact ⟨fun hne => absurd HEQ.out hne, htr.out⟩
                        have HAB := Lib.hid hab2
                        clear hab2
                        go_wp2
                        go_roundg (l.names.length - (b + 1))
                        case measure => omega
                        case rel => exact ⟨b + 1, by go_num, by omega, rfl, rfl, HAB⟩
                  | true =>
                    go_wp2_with fail
                    go_loopg [100] (l.names.length) (fun g i wx => ∃ m : Nat, i = .int .i64 m ∧ m ≤ l.names.length ∧ g = l.names.length - m ∧ wr = wx ∧ Hid (∀ m', m' < m → transAt l a b m'))
                    case atStart => exact ⟨0, rfl, Nat.zero_le _, rfl, rfl, Lib.hid (fun j hj => absurd hj (by omega))⟩
                    case round =>
                      obtain ⟨m, rfl, hm, rfl, rfl, htr⟩ := hrel
                      by_cases hmlt : m < l.names.length
                      · obtain ⟨v3, hv3⟩ : ∃ v, v = ord l b m := ⟨_, rfl⟩
                        obtain ⟨v4, hv4⟩ : ∃ v, v = ord l a m := ⟨_, rfl⟩
                        have qbm := HCELL.out b m hblt hmlt
                        have qam := HCELL.out a m halt hmlt
                        rw [← hv3] at qbm
                        rw [← hv4] at qam
                        have HV3 := Lib.hid hv3
                        have HV4 := Lib.hid hv4
                        clear hv3 hv4
                        by_cases hbad : v3 = true ∧ v4 = false
                        · obtain ⟨rfl, rfl⟩ := hbad
                          have hres : formedB l = false := formedB_false fun f => by have := f.trans a b m halt hblt hmlt HV1.out.symm HV3.out.symm; rw [← HV4.out] at this; cases this
                          have HRES := Lib.hid hres
                          clear hres
                          go_wp2
                          go_ret
                          exact ⟨ret_bool HRES.out.symm, HBW.out⟩
                        · have htr2 : ∀ m', m' < m + 1 → transAt l a b m' := fun m' hm' => by
                            rcases Nat.lt_or_ge m' m with h | h
                            · exact htr.out m' h
                            · obtain rfl : m' = m := by omega
                              intro _ h2
                              rw [← HV3.out] at h2
                              rw [← HV4.out]
                              cases v4
                              · exact absurd ⟨h2, rfl⟩ hbad
                              · rfl
                          have HTR := Lib.hid htr2
                          clear htr2
                          cases v3 with
                          | false =>
                            clear hbad
                            go_wp2
                            go_roundg (l.names.length - (m + 1))
                            case measure => omega
                            case rel => exact ⟨m + 1, by go_num, by omega, rfl, rfl, HTR⟩
                          | true =>
                            cases v4 with
                            | false => exact absurd ⟨rfl, rfl⟩ hbad
                            | true =>
                              clear hbad
                              go_wp2
                              go_roundg (l.names.length - (m + 1))
                              case measure => omega
                              case rel => exact ⟨m + 1, by go_num, by omega, rfl, rfl, HTR⟩
                      · obtain rfl : m = l.names.length := by omega
                        have hab2 : ∀ b', b' < b + 1 → abOK l a b' := fun b' hb' => by
                          rcases Nat.lt_or_ge b' b with h | h
                          · exact hab.out b' h
                          · obtain rfl : b' = b := by omega
                            exact ⟨fun hne => absurd HEQ.out hne, htr.out⟩
                        have HAB := Lib.hid hab2
                        clear hab2
                        go_wp2
                        go_roundg (l.names.length - (b + 1))
                        case measure => omega
                        case rel => exact ⟨b + 1, by go_num, by omega, rfl, rfl, HAB⟩
                · have e3 : ((a : Int) != (b : Int)) = true := by rw [bne_iff_ne]; omega
                  have HNE := Lib.hid hab_eq
                  clear hab_eq
                  cases v1 with
                  | false =>
                    go_wp2_with fail
                    go_loopg [100] (l.names.length) (fun g i wx => ∃ m : Nat, i = .int .i64 m ∧ m ≤ l.names.length ∧ g = l.names.length - m ∧ wr = wx ∧ Hid (∀ m', m' < m → transAt l a b m'))
                    case atStart => exact ⟨0, rfl, Nat.zero_le _, rfl, rfl, Lib.hid (fun j hj => absurd hj (by omega))⟩
                    case round =>
                      obtain ⟨m, rfl, hm, rfl, rfl, htr⟩ := hrel
                      by_cases hmlt : m < l.names.length
                      · have htr2 : ∀ m', m' < m + 1 → transAt l a b m' := fun m' _ h => by rw [← HV1.out] at h; cases h
                        have HTR := Lib.hid htr2
                        clear htr2
                        go_wp2
                        go_roundg (l.names.length - (m + 1))
                        case measure => omega
                        case rel => exact ⟨m + 1, by go_num, by omega, rfl, rfl, HTR⟩
                      · obtain rfl : m = l.names.length := by omega
                        have hab2 : ∀ b', b' < b + 1 → abOK l a b' := fun b' hb' => by
                          rcases Nat.lt_or_ge b' b with h | h
                          · exact hab.out b' h
                          · obtain rfl : b' = b := by omega
                            exact ⟨(fun _ h => by rw [← HV1.out] at h; cases h), htr.out⟩
                        have HAB := Lib.hid hab2
                        clear hab2
                        go_wp2
                        go_roundg (l.names.length - (b + 1))
                        case measure => omega
                        case rel => exact ⟨b + 1, by go_num, by omega, rfl, rfl, HAB⟩
                  | true =>
                    obtain ⟨v2, hv2⟩ : ∃ v, v = ord l b a := ⟨_, rfl⟩
                    have qba := HCELL.out b a hblt halt
                    rw [← hv2] at qba
                    have HV2 := Lib.hid hv2
                    clear hv2
                    cases v2 with
                    | true =>
                      have hres : formedB l = false := formedB_false fun f => f.anti a b halt hblt HNE.out HV1.out.symm HV2.out.symm
                      have HRES := Lib.hid hres
                      clear hres
                      go_wp2
                      go_ret
                      exact ⟨ret_bool HRES.out.symm, HBW.out⟩
                    | false =>
                      go_wp2_with fail
                      go_loopg [100] (l.names.length) (fun g i wx => ∃ m : Nat, i = .int .i64 m ∧ m ≤ l.names.length ∧ g = l.names.length - m ∧ wr = wx ∧ Hid (∀ m', m' < m → transAt l a b m'))
                      case atStart => exact ⟨0, rfl, Nat.zero_le _, rfl, rfl, Lib.hid (fun j hj => absurd hj (by omega))⟩
                      case round =>
                        obtain ⟨m, rfl, hm, rfl, rfl, htr⟩ := hrel
                        by_cases hmlt : m < l.names.length
                        · obtain ⟨v3, hv3⟩ : ∃ v, v = ord l b m := ⟨_, rfl⟩
                          obtain ⟨v4, hv4⟩ : ∃ v, v = ord l a m := ⟨_, rfl⟩
                          have qbm := HCELL.out b m hblt hmlt
                          have qam := HCELL.out a m halt hmlt
                          rw [← hv3] at qbm
                          rw [← hv4] at qam
                          have HV3 := Lib.hid hv3
                          have HV4 := Lib.hid hv4
                          clear hv3 hv4
                          by_cases hbad : v3 = true ∧ v4 = false
                          · obtain ⟨rfl, rfl⟩ := hbad
                            have hres : formedB l = false := formedB_false fun f => by have := f.trans a b m halt hblt hmlt HV1.out.symm HV3.out.symm; rw [← HV4.out] at this; cases this
                            have HRES := Lib.hid hres
                            clear hres
                            go_wp2
                            go_ret
                            exact ⟨ret_bool HRES.out.symm, HBW.out⟩
                          · have htr2 : ∀ m', m' < m + 1 → transAt l a b m' := fun m' hm' => by
                              rcases Nat.lt_or_ge m' m with h | h
                              · exact htr.out m' h
                              · obtain rfl : m' = m := by omega
                                intro _ h2
                                rw [← HV3.out] at h2
                                rw [← HV4.out]
                                cases v4
                                · exact absurd ⟨h2, rfl⟩ hbad
                                · rfl
                            have HTR := Lib.hid htr2
                            clear htr2
                            cases v3 with
                            | false =>
                              clear hbad
                              go_wp2
                              go_roundg (l.names.length - (m + 1))
                              case measure => omega
                              case rel => exact ⟨m + 1, by go_num, by omega, rfl, rfl, HTR⟩
                            | true =>
                              cases v4 with
                              | false => exact absurd ⟨rfl, rfl⟩ hbad
                              | true =>
                                clear hbad
                                go_wp2
                                go_roundg (l.names.length - (m + 1))
                                case measure => omega
                                case rel => exact ⟨m + 1, by go_num, by omega, rfl, rfl, HTR⟩
                        · obtain rfl : m = l.names.length := by omega
                          have hab2 : ∀ b', b' < b + 1 → abOK l a b' := fun b' hb' => by
                            rcases Nat.lt_or_ge b' b with h | h
                            · exact hab.out b' h
                            · obtain rfl : b' = b := by omega
                              exact ⟨(fun _ _ h => by rw [← HV2.out] at h; cases h), htr.out⟩
                          have HAB := Lib.hid hab2
                          clear hab2
                          go_wp2
                          go_roundg (l.names.length - (b + 1))
                          case measure => omega
                          case rel => exact ⟨b + 1, by go_num, by omega, rfl, rfl, HAB⟩
              · obtain rfl : b = l.names.length := by omega
                have haa2 : ∀ a', a' < a + 1 → ∀ b, b < l.names.length → abOK l a' b := fun a' ha' => by
                  rcases Nat.lt_or_ge a' a with h | h
                  · exact haa.out a' h
                  · obtain rfl : a' = a := by omega
                    exact hab.out
                have HAA := Lib.hid haa2
                clear haa2
                go_wp2
                go_roundg (l.names.length - (a + 1))
                case measure => omega
                case rel => exact ⟨a + 1, by go_num, by omega, rfl, rfl, HAA⟩
          · obtain rfl : a = l.names.length := by omega
            clear c0 c1
            go_wp2_with fail
            go_loopg [136] (l.names.length) (fun g i wx => ∃ a : Nat, i = .int .i64 a ∧ a ≤ l.names.length ∧ g = l.names.length - a ∧ Hid (Below (w.alloc (.cells #[.slice A l.names.length c, .slice (some adB) l.order.length d] 25)).heap.size (w.alloc (.cells #[.slice A l.names.length c, .slice (some adB) l.order.length d] 25)) wx) ∧ Hid (∀ a', a' < a → ∀ b, b < l.names.length → boundN l true a' b ≠ -1 ∧ boundN l false a' b ≠ -1))
            case atStart => exact ⟨0, rfl, Nat.zero_le _, rfl, hbr, Lib.hid (fun j hj => absurd hj (by omega))⟩
            case round =>
              rename_i wr0 _
              obtain ⟨a, rfl, ha, rfl, hbx, haa2⟩ := hrel
              by_cases halt : a < l.names.length
              · go_wp2_with fail
                go_loopg [140] (l.names.length) (fun g i wx => ∃ b : Nat, i = .int .i64 b ∧ b ≤ l.names.length ∧ g = l.names.length - b ∧ Hid (Below (w.alloc (.cells #[.slice A l.names.length c, .slice (some adB) l.order.length d] 25)).heap.size (w.alloc (.cells #[.slice A l.names.length c, .slice (some adB) l.order.length d] 25)) wx) ∧ Hid (∀ b', b' < b → boundN l true a b' ≠ -1 ∧ boundN l false a b' ≠ -1))
                case atStart => exact ⟨0, rfl, Nat.zero_le _, rfl, hbx, Lib.hid (fun j hj => absurd hj (by omega))⟩
                case round =>
                  obtain ⟨b, rfl, hb, rfl, hby, hbb⟩ := hrel
                  obtain ⟨c0, c1, hl, hbw⟩ := HF.out _ hby.out
                  rw [HSQ.out] at c1
                  have HBWy := Lib.hid hbw
                  by_cases hblt : b < l.names.length
                  · have hcT := bound_calls l A (some adB) c d true a b _ hl HSq.out halt hblt
                    rw [HSQ.out] at hcT
                    obtain ⟨T, hT⟩ : ∃ T, T = boundN l true a b := ⟨_, rfl⟩
                    rw [← hT] at hcT
                    have HCT := Lib.hid hcT
                    have HTT := Lib.hid hT
                    clear hcT hbw hl hT
                    by_cases hT1 : T = -1
                    · have eT : (T == -1) = true := by simp [hT1]
                      have hres : formedB l = false := formedB_false fun f => (f.bounds a b halt hblt).1 (by rw [← HTT.out]; exact hT1)
                      have HRES := Lib.hid hres
                      clear hres
                      clear hT1
                      go_wp2_with (go_at_call 36; refine HCT.out.mono ?_; rintro e w6 ⟨rfl, hb6⟩)
                      go_ret
                      exact ⟨ret_bool HRES.out.symm, below_step HBWy.out hb6⟩
                    · have eT : (T == -1) = false := beq_eq_false_iff_ne.2 hT1
                      have HT1 := Lib.hid hT1
                      clear hT1
                      go_wp2_with fail
                      refine HCT.out.mono ?_
                      rintro e w6 ⟨rfl, hb6⟩
                      have hb6' := below_step hby.out hb6
                      have HB6 := Lib.hid hb6'
                      clear c0 c1 hb6 hb6'
                      obtain ⟨c0, c1, hl, hbw⟩ := HF.out _ HB6.out
                      rw [HSQ.out] at c1
                      have HBW6 := Lib.hid hbw
                      have hcF := bound_calls l A (some adB) c d false a b _ hl HSq.out halt hblt
                      rw [HSQ.out] at hcF
                      obtain ⟨U, hU⟩ : ∃ T, T = boundN l false a b := ⟨_, rfl⟩
                      rw [← hU] at hcF
                      have HCF := Lib.hid hcF
                      have HUU := Lib.hid hU
                      clear hcF hbw hl hU
                      by_cases hU1 : U = -1
                      · have eU : (U == -1) = true := by simp [hU1]
                        have hres : formedB l = false := formedB_false fun f => (f.bounds a b halt hblt).2 (by rw [← HUU.out]; exact hU1)
                        have HRES := Lib.hid hres
                        clear hres
                        clear hU1
                        go_wp2_with (go_at_call 36; refine HCF.out.mono ?_; rintro e w7 ⟨rfl, hb7⟩)
                        go_ret
                        exact ⟨ret_bool HRES.out.symm, below_step HBW6.out hb7⟩
                      · have eU : (U == -1) = false := beq_eq_false_iff_ne.2 hU1
                        have hbb2 : ∀ b', b' < b + 1 → boundN l true a b' ≠ -1 ∧ boundN l false a b' ≠ -1 := fun b' hb' => by
                          rcases Nat.lt_or_ge b' b with h | h
                          · exact hbb.out b' h
                          · obtain rfl : b' = b := by omega
                            exact ⟨by rw [← HTT.out]; exact HT1.out, by rw [← HUU.out]; exact hU1⟩
                        have HBB := Lib.hid hbb2
                        clear hbb2 hU1
                        go_wp2_with (go_at_call 36; refine HCF.out.mono ?_; rintro e w7 ⟨rfl, hb7⟩; have hb7' := below_step HB6.out hb7; have HB7 := Lib.hid hb7'; clear hb7 hb7')
                        go_roundg (l.names.length - (b + 1))
                        case measure => omega
                        case rel => exact ⟨b + 1, by go_num, by omega, rfl, HB7, HBB⟩
                  · obtain rfl : b = l.names.length := by omega
                    have haa3 : ∀ a', a' < a + 1 → ∀ b, b < l.names.length → boundN l true a' b ≠ -1 ∧ boundN l false a' b ≠ -1 := fun a' ha' => by
                      rcases Nat.lt_or_ge a' a with h | h
                      · exact haa2.out a' h
                      · obtain rfl : a' = a := by omega
                        exact hbb.out
                    have HAA := Lib.hid haa3
                    clear haa3 hbw hl
                    go_wp2
                    go_roundg (l.names.length - (a + 1))
                    case measure => omega
                    case rel => exact ⟨a + 1, by go_num, by omega, rfl, hby, HAA⟩
              · obtain rfl : a = l.names.length := by omega
                have hres : formedB l = true := formedB_true ⟨⟨h1, h8⟩, HSQ.out, fun i hi => (hall.out i hi).1, fun i hi => (hall.out i hi).2, fun a b ha hb hne h1 h2 => (haa.out a ha b hb).1 hne h1 h2, fun a b c ha hb hc h1 h2 => (haa.out a ha b hb).2 c hc h1 h2, fun a b ha hb => haa2.out a ha b hb⟩
                have HRES := Lib.hid hres
                clear hres
                obtain ⟨_, _, _, hbw⟩ := HF.out _ hbx.out
                have HBWz := Lib.hid hbw
                clear hbw
                go_wp2
                go_ret
                exact ⟨ret_bool HRES.out.symm, HBWz.out⟩
  · have hres : formedB l = false := formedB_false fun f => hn ⟨f.few.1, f.few.2, f.sq⟩
    have HRES := Lib.hid hres
    clear hres
    by_cases h1 : 1 ≤ l.names.length
    · by_cases h8 : l.names.length ≤ 8
      · have e1 : ((l.order.length : Int) != (l.names.length : Int)) = true := by
          rw [bne_iff_ne]
          intro e
          exact hn ⟨h1, h8, by omega⟩
        clear hn
        go_enter Tryd.func11, Tryd.ntmps11
        go_wp2
        go_ret
        exact ⟨ret_bool HRES.out.symm, below_alloc (Below.refl _ _) _⟩
      · clear hn
        go_enter Tryd.func11, Tryd.ntmps11
        go_wp2
        go_ret
        exact ⟨ret_bool HRES.out.symm, below_alloc (Below.refl _ _) _⟩
    · clear hn
      go_enter Tryd.func11, Tryd.ntmps11
      go_wp2
      go_ret
      exact ⟨ret_bool HRES.out.symm, below_alloc (Below.refl _ _) _⟩
end Go.Proofs.YtokogcfcaehifaaDoor.LatF
