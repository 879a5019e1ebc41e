/- lattice.Make of the program, at every list of names and pairs. Condition: the two tables of unicode/utf8 are laid. -/
import Derived.Test.YtokogcfcaehifaaDoorMat
import Derived.Deep.RegionHeld3
import Derived.Deep.AppendLies
import Derived.BigRegion
namespace Go.Proofs.YtokogcfcaehifaaDoor.MakeW
set_option linter.unusedVariables false
open Go.RowKit Go.Proofs.YtokogcfcaehifaaDoorW.PrintWords Go.Proofs.YtokogcfcaehifaaDoor.Aux Go.Proofs.YtokogcfcaehifaaDoor.LatSpec Go.Proofs.YtokogcfcaehifaaDoor.LatWalk Go.Proofs.YtokogcfcaehifaaDoor.LatF Go.Proofs.YtokogcfcaehifaaDoor.LatLeq Go.Proofs.YtokogcfcaehifaaDoor.LatJoin Go.Proofs.YtokogcfcaehifaaDoor.MakeSpec Go.Proofs.YtokogcfcaehifaaDoor.Mat
set_option maxRecDepth 100000 in
set_option maxHeartbeats 1600000 in
theorem make_few (names : List ByteArray) (pairs : List (Int × Int)) (A Q : Option Addr) (c cq : Nat) (w : World) (hA : Kd.string.C w A names.length names) (hQ : (Kd.pair (Kd.int .i64) (Kd.int .i64)).C w Q pairs.length pairs) (hs : ∀ s ∈ names, s.size ≤ 9223372036854775807) (hT : Tb w) (hn : names.length ≤ 8) (hm : pairs.length ≤ 64) :
    Calls Tryd.prog 15 #[.slice A names.length c, .slice Q pairs.length cq] w fun e w' => MakePost w names pairs e w' := by
  have HA := Lib.hid hA
  have HNS := Lib.hid hs
  have HTB := Lib.hid hT
  have HQ := Lib.hid hQ
  have hb0 := below_alloc (Below.refl w.heap.size w) (.cells #[.slice none 0 0, .slice none 0 0] 25)
  have HB0 := Lib.hid hb0
  have hcl := clone_calls names A c _ (Kd.C_below hA hb0) (by omega)
  have HCL := Lib.hid hcl
  clear hA hQ hb0 hcl hs hT
  go_enter Tryd.func15, Tryd.ntmps15
  go_wp2_with fail
  refine HCL.out.mono ?_
  rintro e w1 ⟨v1, rfl, hR, hb1⟩
  obtain ⟨A1, c1, rfl, hl1, hC1⟩ := Kd.R_reads hR
  go_wp2_with fail
  have hmat0 : Mat w1 (w1.alloc (.cells #[.slice A1 names.length c1, .slice none 0 0] 25)) w1.heap.size A1 names.length c1 (.slice none 0 0) 0 (fun _ => 0) (fun x y => decide (x = y)) :=
    ⟨below_alloc (Below.refl _ _) _, Nat.le_refl _, blk_new w1 _, ⟨rfl, .inl ⟨rfl, rfl⟩⟩, fun i hi => absurd hi (by omega), fun i hi => absurd hi (by omega), fun i j hi => absurd hi (by omega)⟩
  have HM0 := Lib.hid hmat0
  have HB1 := Lib.hid hb1
  have HR := Lib.hid hR
  have HC1 := Lib.hid hC1
  have HG := Lib.hid (show w.heap.size < w1.heap.size from Nat.lt_of_lt_of_le (by rw [alloc_size]; omega) hb1.size)
  have HNE := Lib.hid (show ∀ ad, A1 = some ad → 0 < names.length → ad.block ≠ w.heap.size from fun ad e _ => by
    subst e
    have := Kd.R_base hR ad.block rfl
    rw [alloc_size] at this
    omega)
  have hmk : ∀ W : World, (Instr.makeSlice 46 (.int .i64 names.length) (.int .i64 names.length)).run Tryd.prog W = .ok (.slice (some ⟨W.heap.size, 0, none⟩) names.length names.length) (W.alloc (.cells (rowB (fun _ _ => false) names.length 0).toArray 4)) := by
    intro W
    obtain ⟨i0, hi, hz0, hz1, hz2⟩ := info_parts (show (Tryd.prog.info? 4).map (fun i => (i.zero, i.size, i.bytes)) = some (some (.bool false), 1, 1) by kernel_rfl)
    have h := run_make (P := Tryd.prog) W 46 4 i0 (.bool false) Tryd.underlying46 hi hz0 .i64 .i64 (names.length : Int) (names.length : Int) (by omega) (by omega) (by rw [hz2]; omega) (by omega)
    rw [h]
    have hc : madeCells (Value.bool false).cells (((names.length : Int)).toNat * i0.size) = (rowB (fun _ _ => false) names.length 0).toArray := by
      rw [hz1]
      rw [show (Value.bool false).cells = #[.bool false] from rfl]
      apply Array.toList_inj.1
      simp [madeCells, rowB, Nat.mod_one]
    rw [hc]
    simp
  have HMK := Lib.hid hmk
  obtain ⟨i0, hi0, hz0, hz1, hz2⟩ := info_parts (show (Tryd.prog.info? 46).map (fun i => (i.zero, i.size, i.bytes)) = some (some (.slice none 0 0), 1, 24) by kernel_rfl)
  clear hmat0 hb1 hR hC1 hmk
  go_loopg [28] (names.length) (fun g i wx => ∃ (k : Nat) (v : Value) (R : Nat → Nat), i = .int .i64 k ∧ k ≤ names.length ∧ g = names.length - k ∧ Hid (Mat w1 wx w1.heap.size A1 names.length c1 v k R (fun x y => decide (x = y))))
  case atStart => exact ⟨0, _, _, rfl, Nat.zero_le _, rfl, HM0⟩
  case round =>
    obtain ⟨k, v, R, rfl, hk, rfl, hmat⟩ := hrel
    by_cases hlt : k < names.length
    · have c1 := hmat.out.box1
      have c0 := hmat.out.box0
      have f1 := hmat.out.boxf 1
      have hmk := HMK.out
      go_wp2_with fail
      have hgv : v.ownBlock ≠ some w1.heap.size := hmat.out.apart
      have HOWN := Lib.hid hmat.out.own
      have HMAT := hmat
      have hGlt := blk_lt hmat.out.box
      go_region_law (first | (refine step_append_lies _ (by rfl) _ _ _ (by rfl) w1.heap.size 46 i0 _ 1 24 Tryd.underlying23 hi0 hz0 hz1 hz2 rfl (by omega) v k (rowV R names.length k) (by rfl) ((own_alloc (own_alloc HOWN.out _) _).drew) ⟨wr.heap.size + 1, 0, none⟩ 1 1 [.slice (some ⟨wr.heap.size, 0, none⟩) names.length names.length] (by rfl) (by rfl) (World.news_of_block (cs := #[.slice (some ⟨wr.heap.size, 0, none⟩) names.length names.length]) (t := 46) (fr := (0, 0)) (two_blocks wr _ _)) (by simp [Value.oneCell']) (by omega) (by unfold maxLen; omega) (by omega) (by simp; omega) (wr.heap.size + 2) (by simp) ?_; intro gg cap w3 hown3 hgrow hat hlt3; obtain ⟨cB, fB⟩ := Mat.box_after HMAT.out hgrow))
      all_goals
        have hm2 := HMAT.out.push rfl rfl hown3 hgrow
        have hm3 := hm2.set (a := k) (b := k) (by omega) hlt true
        have hm4 := hm3.congr (M' := fun x y => decide (x = y)) (fun x y hx hy => by
          unfold upd
          by_cases h1 : x = k
          · subst h1
            by_cases h2 : y = x
            · subst h2; simp
            · simp [h2]; omega
          · simp [h1])
        simp only [if_true] at hm4
        have HM4 := Lib.hid hm4
        have d1 := hm2.box1
        obtain ⟨ob, cap2, hv2, hcap, hrow⟩ := hm2.order (by omega)
        have e1 := hrow k (by omega)
        obtain ⟨rfl, rfl⟩ : gg = ob ∧ cap = cap2 := by injection hv2 with h1 h2 h3; injection h1 with h1; injection h1 with h1; exact ⟨h1, h3⟩
        have e2 := hm2.cell (i := k) (j := k) (by omega) hlt
        have e3 := hm2.free (i := k) (by omega) k
        simp only [if_true] at e1 e2 e3
        clear hm2 hm3 hm4 hrow hv2 hgrow hown3 hat hlt3 cB fB HMAT HOWN hgv hGlt hmat hmk
        go_wp2
        go_roundg (names.length - (k + 1))
        case measure => omega
        case rel => exact ⟨k + 1, _, _, by go_num, by omega, rfl, HM4⟩
    · obtain rfl : k = names.length := by omega
      go_wp2_with fail
      have HFQ := Lib.hid (show ∀ W, Below w.heap.size w W → ∀ i, i < pairs.length → ∃ ad, Q = some ad ∧ W.cell? (ad.add (i * 2)) = some (.int .i64 (pairs.getD i (0, 0)).1) ∧ W.cell? ⟨(ad.add (i * 2)).block, (ad.add (i * 2)).off + 1, none⟩ = some (.int .i64 (pairs.getD i (0, 0)).2) from fun W hW i hi => C_pair_get (Kd.C_below HQ.out hW) hi)
      have HBX := Lib.hid (show ∀ W, Below w1.heap.size w1 W → Below w.heap.size w W from fun W hW => below_step HB0.out (below_step HB1.out hW))
      have HG4 := Lib.hid (show ∀ W, Below w1.heap.size w1 W → W.heap[w.heap.size]? = some (.cells #[.slice none 0 0, .slice none 0 0] 25 (0, 0)) from fun W hW => blk_below (blk_below (blk_new w _) HB1.out) hW)
      have hm0 := hmat.out.congr (M' := initM (pairs.take 0)) (fun x y _ _ => by simp [initM])
      have HM0' := Lib.hid hm0
      clear hm0 hmat
      go_loopg [48] (pairs.length) (fun g i wx => ∃ (m : Nat), i = .int .i64 m ∧ m ≤ pairs.length ∧ g = pairs.length - m ∧ Hid (Mat w1 wx w1.heap.size A1 names.length c1 v names.length R (initM (pairs.take m))) ∧ Hid (∀ j, j < m → okP names.length (pairs.getD j (0, 0))))
      case atStart => exact ⟨0, rfl, Nat.zero_le _, rfl, HM0', Lib.hid (fun j hj => absurd hj (by omega))⟩
      case round =>
        obtain ⟨m, rfl, hmm, rfl, hmat, hok⟩ := hrel
        by_cases hlt : m < pairs.length
        · obtain ⟨qa, hqa, hx, hy⟩ := HFQ.out _ (HBX.out _ hmat.out.bel) m hlt
          subst hqa
          obtain ⟨x, hxx⟩ : ∃ x, x = (pairs.getD m (0, 0)).1 := ⟨_, rfl⟩
          obtain ⟨y, hyy⟩ : ∃ y, y = (pairs.getD m (0, 0)).2 := ⟨_, rfl⟩
          rw [← hxx] at hx
          rw [← hyy] at hy
          have HXX := Lib.hid hxx
          have HYY := Lib.hid hyy
          clear hxx hyy
          have hg4 := HG4.out wr hmat.out.bel
          by_cases hmin : min x y < 0
          · have hsaid : MakeSaid names pairs noLat 10 := .inr (.inl ⟨hn, hm, fun h => by
              have := h _ (getD_mem hlt)
              unfold okP at this
              rw [← HXX.out, ← HYY.out] at this
              omega, rfl, rfl⟩)
            have HSAID := Lib.hid hsaid
            have hw4 := blk_below hg4 (below_alloc (Below.refl wr.heap.size wr) (.cells #[.int .i64 x, .int .i64 y] 37))
            have HW4 := Lib.hid hw4
            have k0 : (wr.alloc (.cells #[.int .i64 x, .int .i64 y] 37)).cell? ⟨w.heap.size, 0, none⟩ = some (.slice none 0 0) := (blk_cell hw4 0).trans rfl
            have k1 : (wr.alloc (.cells #[.int .i64 x, .int .i64 y] 37)).cell? ⟨w.heap.size, 1, none⟩ = some (.slice none 0 0) := (blk_cell hw4 1).trans rfl
            have f0 := blk_frozen hw4 0
            have f1 := blk_frozen hw4 1
            clear hsaid hw4 hg4
            go_wp2
            exact bodyPost_ret (results_ct rfl _ _ w.heap.size 25 #[.slice none 0 0, .slice none 0 0] (0, 0) _ rfl (blk_put (blk_put HW4.out 0 _ rfl) 1 _ rfl) Tryd.underlying25 rfl rfl) rfl ⟨noLat, 10, none, 0, none, 0, rfl, LR_no _, HSAID.out, below_set (below_set (below_alloc (HBX.out _ hmat.out.bel) _) (Nat.le_refl _)) (Nat.le_refl _)⟩
          · have hmin0 : 0 ≤ min x y := by omega
            clear hmin
            by_cases hmax : (names.length : Int) ≤ max x y
            · have hsaid : MakeSaid names pairs noLat 10 := .inr (.inl ⟨hn, hm, fun h => by
                have := h _ (getD_mem hlt)
                unfold okP at this
                rw [← HXX.out, ← HYY.out] at this
                omega, rfl, rfl⟩)
              have HSAID := Lib.hid hsaid
              have hw4 := blk_below hg4 (below_alloc (Below.refl wr.heap.size wr) (.cells #[.int .i64 x, .int .i64 y] 37))
              have HW4 := Lib.hid hw4
              have k0 : (wr.alloc (.cells #[.int .i64 x, .int .i64 y] 37)).cell? ⟨w.heap.size, 0, none⟩ = some (.slice none 0 0) := (blk_cell hw4 0).trans rfl
              have k1 : (wr.alloc (.cells #[.int .i64 x, .int .i64 y] 37)).cell? ⟨w.heap.size, 1, none⟩ = some (.slice none 0 0) := (blk_cell hw4 1).trans rfl
              have f0 := blk_frozen hw4 0
              have f1 := blk_frozen hw4 1
              clear hsaid hw4 hg4
              go_wp2
              exact bodyPost_ret (results_ct rfl _ _ w.heap.size 25 #[.slice none 0 0, .slice none 0 0] (0, 0) _ rfl (blk_put (blk_put HW4.out 0 _ rfl) 1 _ rfl) Tryd.underlying25 rfl rfl) rfl ⟨noLat, 10, none, 0, none, 0, rfl, LR_no _, HSAID.out, below_set (below_set (below_alloc (HBX.out _ hmat.out.bel) _) (Nat.le_refl _)) (Nat.le_refl _)⟩
            · have hmax0 : max x y < (names.length : Int) := by omega
              clear hmax
              obtain ⟨a, rfl⟩ := Int.eq_ofNat_of_zero_le (show 0 ≤ x by omega)
              obtain ⟨b, rfl⟩ := Int.eq_ofNat_of_zero_le (show 0 ≤ y by omega)
              have ha : a < names.length := by omega
              have hb : b < names.length := by omega
              have hmA := hmat.out.after (below_alloc (Below.refl _ _) (.cells #[.int .i64 a, .int .i64 b] 37))
              have d1 := hmA.box1
              obtain ⟨ob, cap, hv, hcap, hrow⟩ := hmA.order (by omega)
              have e1 := hrow a ha
              have e2 := hmA.cell ha hb
              have e3 := hmA.free ha b
              rw [hv] at d1
              have hmB := (hmA.set ha hb true).drew
              have hmC := hmB.congr (M' := initM (pairs.take (m + 1))) (fun p q _ _ => by rw [take_snoc hlt, initM_snoc HXX.out.symm HYY.out.symm])
              have HMC := Lib.hid hmC
              clear hmA hrow hmB hmC hg4 hv
              go_wp2_with fail
              go_region
              go_wp2
              go_roundg (pairs.length - (m + 1))
              case measure => omega
              case rel => exact ⟨m + 1, by go_num, by omega, rfl, HMC, Lib.hid (fun j hj => by
                rcases Nat.lt_or_ge j m with h | h
                · exact hok.out j h
                · obtain rfl : j = m := by omega
                  unfold okP
                  rw [← HXX.out, ← HYY.out]
                  omega)⟩
        · obtain rfl : m = pairs.length := by omega
          have hall : ∀ p ∈ pairs, okP names.length p := fun p hp => by
            obtain ⟨j, hj, rfl⟩ := List.getElem_of_mem hp
            have := hok.out j hj
            rwa [List.getD_eq_getElem?_getD, List.getElem?_eq_getElem hj] at this
          have HALL := Lib.hid hall
          have hmat1 := hmat.out
          rw [List.take_length] at hmat1
          have HM1 := Lib.hid hmat1
          clear hall hmat1 hok hmat
          go_wp2_with fail
          go_loopg [79] (names.length) (fun g i wx => ∃ (k : Nat) (M : Nat → Nat → Bool), i = .int .i64 k ∧ k ≤ names.length ∧ g = names.length - k ∧ Hid (Mat w1 wx w1.heap.size A1 names.length c1 v names.length R M) ∧ Hid (Via names.length (initM pairs) M k))
          case atStart => exact ⟨0, _, rfl, Nat.zero_le _, rfl, HM1, Lib.hid Via.start⟩
          case round =>
            obtain ⟨k, M, rfl, hk, rfl, hmat, hvia⟩ := hrel
            by_cases hlt : k < names.length
            · have HMK0 := Lib.hid (hmat.out.congr (M' := curM M k 0 0) (fun x y _ _ => cur_zero M k x y))
              have HREFL := Lib.hid (hvia.out.refl k hlt)
              clear hmat
              go_wp2_with fail
              go_loopg [83] (names.length) (fun g i wx => ∃ (a : Nat), i = .int .i64 a ∧ a ≤ names.length ∧ g = names.length - a ∧ Hid (Mat w1 wx w1.heap.size A1 names.length c1 v names.length R (curM M k a 0)))
              case atStart => exact ⟨0, rfl, Nat.zero_le _, rfl, HMK0⟩
              case round =>
                obtain ⟨a, rfl, ha0, rfl, hmat⟩ := hrel
                by_cases ha : a < names.length
                · go_wp2_with fail
                  go_loopg [87] (names.length) (fun g i wx => ∃ (b : Nat), i = .int .i64 b ∧ b ≤ names.length ∧ g = names.length - b ∧ Hid (Mat w1 wx w1.heap.size A1 names.length c1 v names.length R (curM M k a b)))
                  case atStart => exact ⟨0, rfl, Nat.zero_le _, rfl, hmat⟩
                  case round =>
                    clear hmat
                    obtain ⟨b, rfl, hb0, rfl, hmat⟩ := hrel
                    by_cases hb : b < names.length
                    · have d1 := hmat.out.box1
                      obtain ⟨ob, cap, hv, hcap, hrow⟩ := hmat.out.order (by omega)
                      rw [hv] at d1
                      have ra := hrow a ha
                      have rk := hrow k hlt
                      have q1 := hmat.out.cell ha hb
                      have q2 := hmat.out.cell ha hlt
                      have q3 := hmat.out.cell hlt hb
                      have f1 := hmat.out.free ha b
                      rw [cur_here] at q1
                      rw [cur_left HREFL.out] at q2
                      rw [cur_right HREFL.out] at q3
                      obtain ⟨u1, hu1⟩ : ∃ u, u = M a b := ⟨_, rfl⟩
                      obtain ⟨u2, hu2⟩ : ∃ u, u = M a k := ⟨_, rfl⟩
                      obtain ⟨u3, hu3⟩ : ∃ u, u = M k b := ⟨_, rfl⟩
                      rw [← hu1] at q1
                      rw [← hu2] at q2
                      rw [← hu3] at q3
                      have HU1 := Lib.hid hu1
                      have HU2 := Lib.hid hu2
                      have HU3 := Lib.hid hu3
                      clear hu1 hu2 hu3 hrow hv
                      cases u1 with
                      | true =>
                        have hw := ((hmat.out.set ha hb true).drew).congr (M' := curM M k a (b + 1)) (fun p q _ _ => by rw [← cur_next, stepM, ← HU1.out]; rfl)
                        have HW2 := Lib.hid hw
                        clear hw
                        go_wp2_with fail
                        go_region
                        go_wp2
                        go_roundg (names.length - (b + 1))
                        case measure => omega
                        case rel => exact ⟨b + 1, by go_num, by omega, rfl, HW2⟩
                      | false =>
                        cases u2 with
                        | false =>
                          have hw := ((hmat.out.set ha hb false).drew).congr (M' := curM M k a (b + 1)) (fun p q _ _ => by rw [← cur_next, stepM, ← HU1.out, ← HU2.out]; rfl)
                          have HW2 := Lib.hid hw
                          clear hw
                          go_wp2_with fail
                          go_region
                          go_wp2
                          go_roundg (names.length - (b + 1))
                          case measure => omega
                          case rel => exact ⟨b + 1, by go_num, by omega, rfl, HW2⟩
                        | true =>
                          have hw := ((hmat.out.set ha hb u3).drew).congr (M' := curM M k a (b + 1)) (fun p q _ _ => by rw [← cur_next, stepM, ← HU1.out, ← HU2.out, ← HU3.out]; rfl)
                          have HW2 := Lib.hid hw
                          clear hw
                          go_wp2_with fail
                          go_region
                          go_wp2
                          go_roundg (names.length - (b + 1))
                          case measure => omega
                          case rel => exact ⟨b + 1, by go_num, by omega, rfl, HW2⟩
                    · obtain rfl : b = names.length := by omega
                      have hw := hmat.out.congr (M' := curM M k (a + 1) 0) (fun x y _ hy => cur_row M k a _ x y hy)
                      have HW2 := Lib.hid hw
                      clear hw
                      go_wp2
                      go_roundg (names.length - (a + 1))
                      case measure => omega
                      case rel => exact ⟨a + 1, by go_num, by omega, rfl, HW2⟩
                · obtain rfl : a = names.length := by omega
                  have hw := hmat.out.congr (M' := stepM M k) (fun x y hx _ => cur_all M k _ x y hx)
                  have hv2 := hvia.out.step hlt
                  have HW2 := Lib.hid hw
                  have HV2 := Lib.hid hv2
                  clear hw hv2
                  go_wp2
                  go_roundg (names.length - (k + 1))
                  case measure => omega
                  case rel => exact ⟨k + 1, _, by go_num, by omega, rfl, HW2, HV2⟩
            · obtain rfl : k = names.length := by omega
              have HCLO := Lib.hid hvia.out.clo
              obtain ⟨B, d, hv, hLR⟩ := hmat.out.reads hl1 HC1.out
              have hcall := formed_c (latOf names M) A1 B c1 d _ hLR HNS.out (HTB.out.below (HBX.out _ hmat.out.bel))
              rw [show (latOf names M).names.length = names.length from rfl] at hcall
              subst hv
              obtain ⟨ol, hol⟩ : ∃ ol, ol = (latOf names M).order.length := ⟨_, rfl⟩
              rw [← hol] at hmat hcall
              have HOL := Lib.hid hol
              obtain ⟨t, ht⟩ : ∃ t, t = formedB (latOf names M) := ⟨_, rfl⟩
              rw [← ht] at hcall
              have HC := Lib.hid hcall
              have HT := Lib.hid ht
              have b0 := hmat.out.box0
              have b1 := hmat.out.box1
              clear hcall ht hLR hol
              cases t with
              | false =>
                have HSAID : Hid (MakeSaid names pairs noLat 4) := Lib.hid (.inr (.inr ⟨hn, hm, HALL.out, M, HCLO.out, .inr ⟨HT.out.symm, rfl, rfl⟩⟩))
                go_wp2_with fail
                refine HC.out.mono ?_
                rintro e w6 ⟨rfl, hb6⟩
                have hm6 := hmat.out.after hb6
                have hw4 := HG4.out w6 hm6.bel
                have HW4 := Lib.hid hw4
                have HBL := Lib.hid (HBX.out _ hm6.bel)
                have k0 : w6.cell? ⟨w.heap.size, 0, none⟩ = some (.slice none 0 0) := (blk_cell hw4 0).trans rfl
                have k1 : w6.cell? ⟨w.heap.size, 1, none⟩ = some (.slice none 0 0) := (blk_cell hw4 1).trans rfl
                have f0 := blk_frozen hw4 0
                have f1 := blk_frozen hw4 1
                clear hw4 hm6 hb6
                go_wp2
                exact bodyPost_ret (results_ct rfl _ _ w.heap.size 25 #[.slice none 0 0, .slice none 0 0] (0, 0) _ rfl (blk_put (blk_put HW4.out 0 _ rfl) 1 _ rfl) Tryd.underlying25 rfl rfl) rfl ⟨noLat, 4, none, 0, none, 0, rfl, LR_no _, HSAID.out, below_set (below_set HBL.out (Nat.le_refl _)) (Nat.le_refl _)⟩
              | true =>
                have HSAID : Hid (MakeSaid names pairs (latOf names M) 0) := Lib.hid (.inr (.inr ⟨hn, hm, HALL.out, M, HCLO.out, .inl ⟨HT.out.symm, rfl, rfl⟩⟩))
                go_wp2_with fail
                refine HC.out.mono ?_
                rintro e w6 ⟨rfl, hb6⟩
                have hm6 := hmat.out.after hb6
                have hw4 := HG4.out w6 hm6.bel
                have HW4 := Lib.hid hw4
                have HM6 := Lib.hid hm6
                have HBL := Lib.hid (HBX.out _ hm6.bel)
                have k0 : w6.cell? ⟨w.heap.size, 0, none⟩ = some (.slice none 0 0) := (blk_cell hw4 0).trans rfl
                have k1 : w6.cell? ⟨w.heap.size, 1, none⟩ = some (.slice none 0 0) := (blk_cell hw4 1).trans rfl
                have f0 := blk_frozen hw4 0
                have f1 := blk_frozen hw4 1
                have g0 := hm6.box0
                have g1 := hm6.box1
                clear hw4 hm6 hb6 b0 b1
                go_wp2
                obtain ⟨B', d', hv', hLR'⟩ := HM6.out.reads_put hl1 HC1.out (q := w.heap.size) HG.out HNE.out (.slice A1 names.length c1) (.slice B ol d)
                obtain ⟨rfl, _, rfl⟩ : B = B' ∧ ol = (latOf names M).order.length ∧ d = d' := by injection hv' with h1 h2 h3; exact ⟨h1, h2, h3⟩
                exact bodyPost_ret (results_ct rfl _ _ w.heap.size 25 #[.slice A1 names.length c1, .slice B ol d] (0, 0) _ rfl (blk_put (blk_put HW4.out 0 _ rfl) 1 _ rfl) Tryd.underlying25 rfl rfl) rfl ⟨latOf names M, 0, A1, c1, B, d, by rw [HOL.out]; rfl, hLR', HSAID.out, below_set (below_set HBL.out (Nat.le_refl _)) (Nat.le_refl _)⟩
set_option maxRecDepth 100000 in
set_option maxHeartbeats 1600000 in
theorem make_calls (names : List ByteArray) (pairs : List (Int × Int)) (A Q : Option Addr) (c cq : Nat) (w : World) (hA : Kd.string.C w A names.length names) (hQ : (Kd.pair (Kd.int .i64) (Kd.int .i64)).C w Q pairs.length pairs) (hs : ∀ s ∈ names, s.size ≤ 9223372036854775807) (hT : Tb w) :
    Calls Tryd.prog 15 #[.slice A names.length c, .slice Q pairs.length cq] w fun e w' => MakePost w names pairs e w' := by
  by_cases hn : names.length ≤ 8
  · by_cases hm : pairs.length ≤ 64
    · exact make_few names pairs A Q c cq w hA hQ hs hT hn hm
    · have HSAID : Hid (MakeSaid names pairs noLat 1) := Lib.hid (.inl ⟨fun h => hm h.2, rfl, rfl⟩)
      have bk := blk_new w (.cells #[.slice none 0 0, .slice none 0 0] 25)
      have HBK := Lib.hid bk
      have hb0 := below_alloc (Below.refl w.heap.size w) (.cells #[.slice none 0 0, .slice none 0 0] 25)
      have HB0 := Lib.hid hb0
      have b1 := (C_len hA).2
      have b2 := (C_len hQ).2
      clear hA hQ hs hT bk hb0
      go_enter Tryd.func15, Tryd.ntmps15
      go_wp2
      exact bodyPost_ret (results_ct rfl _ _ w.heap.size 25 #[.slice none 0 0, .slice none 0 0] (0, 0) _ rfl HBK.out Tryd.underlying25 rfl rfl) rfl ⟨noLat, 1, none, 0, none, 0, rfl, LR_no _, HSAID.out, HB0.out⟩
  · have HSAID : Hid (MakeSaid names pairs noLat 1) := Lib.hid (.inl ⟨fun h => hn h.1, rfl, rfl⟩)
    have bk := blk_new w (.cells #[.slice none 0 0, .slice none 0 0] 25)
    have HBK := Lib.hid bk
    have hb0 := below_alloc (Below.refl w.heap.size w) (.cells #[.slice none 0 0, .slice none 0 0] 25)
    have HB0 := Lib.hid hb0
    have b1 := (C_len hA).2
    have b2 := (C_len hQ).2
    clear hA hQ hs hT bk hb0
    go_enter Tryd.func15, Tryd.ntmps15
    go_wp2
    exact bodyPost_ret (results_ct rfl _ _ w.heap.size 25 #[.slice none 0 0, .slice none 0 0] (0, 0) _ rfl HBK.out Tryd.underlying25 rfl rfl) rfl ⟨noLat, 1, none, 0, none, 0, rfl, LR_no _, HSAID.out, HB0.out⟩
end Go.Proofs.YtokogcfcaehifaaDoor.MakeW
