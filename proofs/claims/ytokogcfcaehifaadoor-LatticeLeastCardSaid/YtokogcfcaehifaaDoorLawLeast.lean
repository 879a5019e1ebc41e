/- The law palisadelaw01.LatticeLeast answers true at every lattice and list of pairs. Condition: the two tables of unicode/utf8 are laid. -/
import Derived.Test.YtokogcfcaehifaaDoorAwake
import Derived.Deep.RegionHeld3
import Derived.BigRegion
namespace Go.Proofs.YtokogcfcaehifaaDoor.LawLeast
set_option linter.unusedVariables false
open Go.RowKit Go.Proofs.YtokogcfcaehifaaDoorW.PrintWords Go.Proofs.YtokogcfcaehifaaDoor.Aux Go.Proofs.YtokogcfcaehifaaDoor.LatSpec Go.Proofs.YtokogcfcaehifaaDoor.LatWalk Go.Proofs.YtokogcfcaehifaaDoor.LatF Go.Proofs.YtokogcfcaehifaaDoor.LatLeq Go.Proofs.YtokogcfcaehifaaDoor.LatJoin Go.Proofs.YtokogcfcaehifaaDoor.MakeSpec Go.Proofs.YtokogcfcaehifaaDoor.Mat Go.Proofs.YtokogcfcaehifaaDoor.MakeW Go.Proofs.YtokogcfcaehifaaDoor.AwakeSpec Go.Proofs.YtokogcfcaehifaaDoor.Awake
/-! ### in plain words -/
theorem leq_iff {l : Lat} {a b : Int} : leqB l a b = true ↔ (∃ x y : Nat, a = x ∧ b = y ∧ x < l.names.length ∧ y < l.names.length ∧ ord l x y = true) ∧ formedB l = true := by
  rw [leqB, Bool.and_eq_true, right_iff]
  constructor
  · rintro ⟨⟨⟨x, y, rfl, rfl, hx, hy⟩, hf⟩, ho⟩
    exact ⟨⟨x, y, rfl, rfl, hx, hy, by simpa using ho⟩, hf⟩
  · rintro ⟨⟨x, y, rfl, rfl, hx, hy, ho⟩, hf⟩
    exact ⟨⟨⟨x, y, rfl, rfl, hx, hy⟩, hf⟩, by simpa using ho⟩
/-- What is made of pairs that stand in a formed lattice. -/
theorem least_plain {l k : Lat} {pairs : List (Int × Int)} {err : Int} (hf : formedB l = true) (hm : pairs.length ≤ 64) (hp : ∀ p ∈ pairs, leqB l p.1 p.2 = true) (h : MakeSaid l.names pairs k err) :
    (err = 4) ∨ (err = 0 ∧ (∀ a b : Nat, leqB k a b = true → leqB l a b = true) ∧ ∀ p ∈ pairs, leqB k p.1 p.2 = true) := by
  have f := of_formedB hf
  have hok : ∀ p ∈ pairs, okP l.names.length p := fun p hpp => by
    obtain ⟨⟨x, y, e1, e2, hx, hy, _⟩, _⟩ := leq_iff.1 (hp p hpp)
    unfold okP
    omega
  rcases h with ⟨h1, _⟩ | ⟨_, _, h3, _⟩ | ⟨_, _, _, M, hM, ⟨hfk, rfl, rfl⟩ | ⟨_, _, rfl⟩⟩
  · exact absurd ⟨f.few.2, hm⟩ h1
  · exact absurd hok h3
  · refine .inr ⟨rfl, fun a b hab => ?_, fun p hpp => ?_⟩
    · obtain ⟨⟨x, y, e1, e2, hx, hy, ho⟩, _⟩ := leq_iff.1 hab
      have hx' : x < l.names.length := hx
      have hy' : y < l.names.length := hy
      rw [latOf_ord _ _ hx' hy'] at ho
      have := hM.least (ord l) (fun u v hu hv hi => by
        simp only [initM, Bool.or_eq_true, decide_eq_true_eq, List.any_eq_true, Bool.and_eq_true] at hi
        rcases hi with rfl | ⟨p, hpp, g1, g2⟩
        · exact f.refl u hu
        · obtain ⟨⟨x', y', e1', e2', _, _, ho'⟩, _⟩ := leq_iff.1 (hp p hpp)
          obtain rfl : x' = u := by omega
          obtain rfl : y' = v := by omega
          exact ho') (fun u v z hu hv hz g1 g2 => f.trans u v z hu hv hz g1 g2) x y hx' hy' ho
      exact leq_iff.2 ⟨⟨x, y, e1, e2, hx', hy', this⟩, hf⟩
    · obtain ⟨⟨x, y, e1, e2, hx, hy, _⟩, _⟩ := leq_iff.1 (hp p hpp)
      refine leq_iff.2 ⟨⟨x, y, e1, e2, hx, hy, ?_⟩, hfk⟩
      rw [latOf_ord _ _ hx hy]
      refine hM.sub x y hx hy ?_
      simp only [initM, Bool.or_eq_true, decide_eq_true_eq, List.any_eq_true, Bool.and_eq_true]
      exact .inr ⟨p, hpp, e1, e2⟩
  · exact .inl rfl
theorem said_names {l k : Lat} {pairs : List (Int × Int)} {err : Int} (h : Ns l) (hs : MakeSaid l.names pairs k err) : Ns k := by
  have hno : Ns noLat := fun s hs => by simp [noLat] at hs
  rcases hs with ⟨_, rfl, _⟩ | ⟨_, _, _, rfl, _⟩ | ⟨_, _, _, M, _, ⟨_, rfl, _⟩ | ⟨_, rfl, _⟩⟩
  · exact hno
  · exact hno
  · exact h
  · exact hno
theorem mem_pairs {pairs : List (Int × Int)} {P : Int × Int → Prop} (h : ∀ j, j < pairs.length → P (pairs.getD j (0, 0))) : ∀ p ∈ pairs, P p := fun p hp => by
  obtain ⟨j, hj, rfl⟩ := List.getElem_of_mem hp
  have := h j hj
  rwa [List.getD_eq_getElem?_getD, List.getElem?_eq_getElem hj] at this
set_option maxRecDepth 100000 in
set_option maxHeartbeats 3200000 in
theorem law_calls (l : Lat) (pairs : List (Int × Int)) (A B Q : Option Addr) (c d cq : Nat) (w : World) (h : LR w l A c B d) (hs : Ns l) (hQ : (Kd.pair (Kd.int .i64) (Kd.int .i64)).C w Q pairs.length pairs) (hT : Tb w) :
    Calls Tryd.prog 5 #[.agg #[.slice A l.names.length c, .slice B l.order.length d], .slice Q pairs.length cq] w fun e w' => e = .returned (.bool true) ∧ Below w.heap.size w w' := by
  have hF := boxed (n := l.names.length) (m := l.order.length) h hT
  obtain ⟨c0, c1, hl, hbw, htb⟩ := hF _ (Below.refl _ _)
  have ha := awake_calls _ htb
  have HF := Lib.hid hF
  have HBW := Lib.hid hbw
  have HA := Lib.hid ha
  have HNS := Lib.hid hs
  have HQ := Lib.hid hQ
  have hmq := (C_len hQ).2
  have hmn := (C_len h.2.2.1).2
  clear hF hl hbw htb ha h hs hT hQ
  obtain ⟨t, ht⟩ : ∃ t, t = smallB l := ⟨_, rfl⟩
  have HT := Lib.hid ht
  clear ht
  go_enter Tryd.func5, Tryd.ntmps5
  go_wp2_with fail
  refine HA.out.mono ?_
  rintro e w1 ⟨rfl, hb1⟩
  clear c0 c1
  obtain ⟨c0, c1, hl, hbw, htb⟩ := HF.out _ hb1
  have hsm := small_calls l A B c d _ hl
  rw [← HT.out] at hsm
  have HSM := Lib.hid hsm
  have HB1 := Lib.hid hb1
  clear hsm hl hbw htb hb1
  go_wp2_with fail
  refine HSM.out.mono ?_
  rintro e w2 ⟨rfl, hb2⟩
  have HB2 := Lib.hid (below_step HB1.out hb2)
  clear c0 c1 hb2
  obtain ⟨c0, c1, hl, hbw, htb⟩ := HF.out _ HB2.out
  have ha2 := awake_calls _ htb
  have HA2 := Lib.hid ha2
  have HBW2 := Lib.hid hbw
  have hfc := formed_c l A B c d _ hl HNS.out htb
  obtain ⟨fm, hfm⟩ : ∃ t, t = formedB l := ⟨_, rfl⟩
  rw [← hfm] at hfc
  have HFC := Lib.hid hfc
  have HFM := Lib.hid hfm
  clear ha2 hl hbw htb hfc hfm
  cases t with
  | false =>
    go_wp2_with (go_at_call 9; refine HA2.out.mono ?_; rintro e w3 ⟨rfl, hb3⟩)
    go_ret
    exact ⟨rfl, below_step HBW2.out hb3⟩
  | true =>
    go_wp2_with fail
    refine HFC.out.mono ?_
    rintro e w3 ⟨rfl, hb3⟩
    have HB3 := Lib.hid (below_step HB2.out hb3)
    clear c0 c1 hb3
    obtain ⟨c0, c1, hl, hbw, htb⟩ := HF.out _ HB3.out
    have ha3 := awake_calls _ htb
    have HA3 := Lib.hid ha3
    have HBW3 := Lib.hid hbw
    clear ha3 hl hbw htb
    cases fm with
    | false =>
      go_wp2_with (go_at_call 9; refine HA3.out.mono ?_; rintro e w4 ⟨rfl, hb4⟩)
      go_ret
      exact ⟨rfl, below_step HBW3.out hb4⟩
    | true =>
      by_cases hm : pairs.length ≤ 64
      · go_wp2_with fail
        obtain ⟨HQX⟩ : Nonempty (Hid (∀ W, Below w.heap.size w W → ∀ i, i < pairs.length → ∃ ad, Q = some ad ∧ W.cell? (ad.add (i * 2)) = some (.int .i64 (pairs.getD i (0, 0)).1) ∧ W.cell? ⟨(ad.add (i * 2)).block, (ad.add (i * 2)).off + 1, none⟩ = some (.int .i64 (pairs.getD i (0, 0)).2))) := ⟨Lib.hid fun W hW i hi => C_pair_get (Kd.C_below HQ.out hW) hi⟩
        have KL := Lib.hid (show ∀ W, Below (w.alloc (.cells #[.slice A l.names.length c, .slice B l.order.length d] 25)).heap.size (w.alloc (.cells #[.slice A l.names.length c, .slice B l.order.length d] 25)) W → ∀ (a b : Int) (v : Bool), v = leqB l a b → Calls Tryd.prog 18 #[.agg #[.slice A l.names.length c, .slice B l.order.length d], .int .i64 a, .int .i64 b] W fun e w' => e = .returned (.bool v) ∧ Below (w.alloc (.cells #[.slice A l.names.length c, .slice B l.order.length d] 25)).heap.size (w.alloc (.cells #[.slice A l.names.length c, .slice B l.order.length d] 25)) w' from fun W hW a b v hv => by
          obtain ⟨_, _, hl, _, htb⟩ := HF.out _ hW
          refine (leq_calls l A B c d a b W hl HNS.out htb).mono ?_
          rintro e w' ⟨he, hb⟩
          exact ⟨by rw [he, hv], below_step hW hb⟩)
        clear c0 c1
        go_loopg [5] (pairs.length) (fun g i wx => ∃ (k : Nat), i = .int .i64 k ∧ k ≤ pairs.length ∧ g = pairs.length - k ∧ Hid (Below (w.alloc (.cells #[.slice A l.names.length c, .slice B l.order.length d] 25)).heap.size (w.alloc (.cells #[.slice A l.names.length c, .slice B l.order.length d] 25)) wx) ∧ Hid (∀ j, j < k → leqB l (pairs.getD j (0, 0)).1 (pairs.getD j (0, 0)).2 = true))
        case atStart => exact ⟨0, rfl, Nat.zero_le _, rfl, HB3, Lib.hid (fun j hj => absurd hj (by omega))⟩
        case round =>
          obtain ⟨k, rfl, hk, rfl, hbr, hall⟩ := hrel
          obtain ⟨c0, c1, hl, hbw, htb⟩ := HF.out _ hbr.out
          have HBWR := Lib.hid hbw
          by_cases hlt : k < pairs.length
          · obtain ⟨qa, hqa, hx, hy⟩ := HQX.out _ hbw k hlt
            subst hqa
            obtain ⟨x, hxx⟩ : ∃ x, x = (pairs.getD k (0, 0)).1 := ⟨_, rfl⟩
            obtain ⟨y, hyy⟩ : ∃ y, y = (pairs.getD k (0, 0)).2 := ⟨_, rfl⟩
            rw [← hxx] at hx
            rw [← hyy] at hy
            obtain ⟨v, hv⟩ : ∃ v, v = leqB l x y := ⟨_, rfl⟩
            have HXX := Lib.hid hxx
            have HYY := Lib.hid hyy
            have HV := Lib.hid hv
            have hb0 := hbr.out
            clear hxx hyy hv hbw htb hl
            go_wp2_with fail
            go_region_held3 (fun w' => w'.cell? ⟨w.heap.size, 0, none⟩ = some (.slice A l.names.length c) ∧ w'.cell? ⟨w.heap.size, 1, none⟩ = some (.slice B l.order.length d) ∧ w'.cell? (qa.add (k * 2)) = some (.int .i64 x) ∧ w'.cell? ⟨(qa.add (k * 2)).block, (qa.add (k * 2)).off + 1, none⟩ = some (.int .i64 y))
              (first | go_keep | exact ⟨s0, s1, s2, s3⟩)
              ((go_at_call 18; refine (KL.out _ (by first | assumption | exact Below.drew (by assumption)) x y v HV.out).mono ?_; rintro e wa ⟨rfl, hba⟩; obtain ⟨s0, s1, _, sb, _⟩ := HF.out _ hba; obtain ⟨qb, hqb, s2, s3⟩ := HQX.out _ sb k hlt; obtain rfl : qa = qb := Option.some.inj hqb; rw [← HXX.out] at s2; rw [← HYY.out] at s3))
            cases v with
            | false =>
              have HBX := Lib.hid sb
              clear sb
              go_wp2
              go_ret
              exact ⟨rfl, HBX.out⟩
            | true =>
              have hall2 : ∀ j, j < k + 1 → leqB l (pairs.getD j (0, 0)).1 (pairs.getD j (0, 0)).2 = true := fun j hj => by
                rcases Nat.lt_or_ge j k with h | h
                · exact hall.out j h
                · obtain rfl : j = k := by omega
                  rw [← HXX.out, ← HYY.out]; exact HV.out.symm
              have HALL := Lib.hid hall2
              have HBA := Lib.hid hba
              clear hall2 sb hba s0 s1 s2 s3 hx hy hb0
              go_wp2
              go_roundg (pairs.length - (k + 1))
              case measure => omega
              case rel => exact ⟨k + 1, by go_num, by omega, rfl, HBA, HALL⟩
          · obtain rfl : k = pairs.length := by omega
            have HP := Lib.hid (mem_pairs (pairs := pairs) (P := fun p => leqB l p.1 p.2 = true) hall.out)
            have hmk := make_calls l.names pairs A Q c cq _ hl.2.2.1 (Kd.C_below HQ.out hbw) HNS.out htb
            have HMK := Lib.hid hmk
            clear hmk hl hbw htb
            go_wp2_with fail
            refine HMK.out.mono ?_
            rintro e w5 ⟨k, err, A', c', B', d', rfl, hLR, hsaid, hb5⟩
            have hlp := least_plain HFM.out.symm hm HP.out hsaid
            have hns2 : Ns k := said_names HNS.out hsaid
            have HB5 := Lib.hid (below_step hbr.out hb5)
            obtain ⟨_, _, _, hbw5, htb5⟩ := HF.out _ HB5.out
            have HBW5 := Lib.hid hbw5
            have HLR := Lib.hid hLR
            have HTB5 := Lib.hid htb5
            have HN2 := Lib.hid hns2
            clear hLR hsaid hb5 hbw5 htb5 c0 c1 hns2
            rcases hlp with rfl | ⟨rfl, hle, hpp⟩
            · go_wp2
              go_ret
              exact ⟨rfl, below_alloc HBW5.out _⟩
            · have HLE := Lib.hid hle
              have HPP := Lib.hid hpp
              clear hle hpp
              have HF2 := Lib.hid (boxed (n := k.names.length) (m := k.order.length) HLR.out HTB5.out)
              have HD := Lib.hid (show ∀ W, Below (w5.alloc (.cells #[.slice A' k.names.length c', .slice B' k.order.length d'] 25)).heap.size (w5.alloc (.cells #[.slice A' k.names.length c', .slice B' k.order.length d'] 25)) W → Below (w.alloc (.cells #[.slice A l.names.length c, .slice B l.order.length d] 25)).heap.size (w.alloc (.cells #[.slice A l.names.length c, .slice B l.order.length d] 25)) W from fun W hW => below_step HB5.out (below_step (below_alloc (Below.refl _ _) _) hW))
              have KK := Lib.hid (show ∀ W, Below (w5.alloc (.cells #[.slice A' k.names.length c', .slice B' k.order.length d'] 25)).heap.size (w5.alloc (.cells #[.slice A' k.names.length c', .slice B' k.order.length d'] 25)) W → ∀ (a b : Int) (v : Bool), v = leqB k a b → Calls Tryd.prog 18 #[.agg #[.slice A' k.names.length c', .slice B' k.order.length d'], .int .i64 a, .int .i64 b] W fun e w' => e = .returned (.bool v) ∧ Below (w5.alloc (.cells #[.slice A' k.names.length c', .slice B' k.order.length d'] 25)).heap.size (w5.alloc (.cells #[.slice A' k.names.length c', .slice B' k.order.length d'] 25)) w' from fun W hW a b v hv => by
                obtain ⟨_, _, hl, _, htb⟩ := HF2.out _ hW
                refine (leq_calls k A' B' c' d' a b W hl HN2.out htb).mono ?_
                rintro e w' ⟨he, hb⟩
                exact ⟨by rw [he, hv], below_step hW hb⟩)
              have KL2 := Lib.hid (show ∀ W, Below (w5.alloc (.cells #[.slice A' k.names.length c', .slice B' k.order.length d'] 25)).heap.size (w5.alloc (.cells #[.slice A' k.names.length c', .slice B' k.order.length d'] 25)) W → ∀ (a b : Int) (v : Bool), v = leqB l a b → Calls Tryd.prog 18 #[.agg #[.slice A l.names.length c, .slice B l.order.length d], .int .i64 a, .int .i64 b] W fun e w' => e = .returned (.bool v) ∧ Below (w5.alloc (.cells #[.slice A' k.names.length c', .slice B' k.order.length d'] 25)).heap.size (w5.alloc (.cells #[.slice A' k.names.length c', .slice B' k.order.length d'] 25)) w' from fun W hW a b v hv => by
                obtain ⟨_, _, hl, _, htb⟩ := HF.out _ (HD.out _ hW)
                refine (leq_calls l A B c d a b W hl HNS.out htb).mono ?_
                rintro e w' ⟨he, hb⟩
                exact ⟨by rw [he, hv], below_step hW hb⟩)
              go_wp2_with fail
              go_loopg [8] (l.names.length) (fun g i wx => ∃ (a : Nat), i = .int .i64 a ∧ a ≤ l.names.length ∧ g = l.names.length - a ∧ Hid (Below (w5.alloc (.cells #[.slice A' k.names.length c', .slice B' k.order.length d'] 25)).heap.size (w5.alloc (.cells #[.slice A' k.names.length c', .slice B' k.order.length d'] 25)) wx))
              case atStart => exact ⟨0, rfl, Nat.zero_le _, rfl, Lib.hid (Below.refl _ _)⟩
              case round =>
                obtain ⟨a, rfl, ha0, rfl, hbr⟩ := hrel
                obtain ⟨c0, c1, _, _, _⟩ := HF.out _ (HD.out _ hbr.out)
                by_cases ha : a < l.names.length
                · go_wp2_with fail
                  clear c0 c1
                  go_loopg [9] (l.names.length) (fun g i wx => ∃ (b : Nat), i = .int .i64 b ∧ b ≤ l.names.length ∧ g = l.names.length - b ∧ Hid (Below (w5.alloc (.cells #[.slice A' k.names.length c', .slice B' k.order.length d'] 25)).heap.size (w5.alloc (.cells #[.slice A' k.names.length c', .slice B' k.order.length d'] 25)) wx))
                  case atStart => exact ⟨0, rfl, Nat.zero_le _, rfl, hbr⟩
                  case round =>
                    clear hbr
                    obtain ⟨b, rfl, hb0, rfl, hbr⟩ := hrel
                    obtain ⟨c0, c1, _, _, _⟩ := HF.out _ (HD.out _ hbr.out)
                    by_cases hb : b < l.names.length
                    · obtain ⟨k0, k1, _, _, _⟩ := HF2.out _ hbr.out
                      obtain ⟨v1, hv1⟩ : ∃ v, v = leqB k a b := ⟨_, rfl⟩
                      obtain ⟨v2, hv2⟩ : ∃ v, v = leqB l a b := ⟨_, rfl⟩
                      have HV1 := Lib.hid hv1
                      have HV2 := Lib.hid hv2
                      have h12 : v1 = true → v2 = true := fun h => by rw [hv2]; exact HLE.out a b (by rw [← hv1]; exact h)
                      clear hv1 hv2
                      cases v1 with
                      | false =>
                        clear h12
                        go_wp2_with (go_at_call 18; refine (KK.out _ hbr.out a b false HV1.out).mono ?_; rintro e wa ⟨rfl, hba⟩; have HBA := Lib.hid hba; clear hba)
                        go_roundg (l.names.length - (b + 1))
                        case measure => omega
                        case rel => exact ⟨b + 1, by go_num, by omega, rfl, HBA⟩
                      | true =>
                        obtain rfl : v2 = true := h12 rfl
                        clear h12
                        go_wp2_with fail
                        refine (KK.out _ hbr.out a b true HV1.out).mono ?_
                        rintro e wa ⟨rfl, hba⟩
                        clear c0 c1 k0 k1
                        obtain ⟨c0, c1, _, _, _⟩ := HF.out _ (HD.out _ hba)
                        go_wp2_with (go_at_call 18; refine (KL2.out _ hba a b true HV2.out).mono ?_; rintro e wb ⟨rfl, hbb⟩; have HBB := Lib.hid hbb; clear hbb)
                        go_roundg (l.names.length - (b + 1))
                        case measure => omega
                        case rel => exact ⟨b + 1, by go_num, by omega, rfl, HBB⟩
                    · obtain rfl : b = l.names.length := by omega
                      go_wp2
                      go_roundg (l.names.length - (a + 1))
                      case measure => omega
                      case rel => exact ⟨a + 1, by go_num, by omega, rfl, hbr⟩
                · obtain rfl : a = l.names.length := by omega
                  go_wp2_with fail
                  clear c0 c1
                  go_loopg [10] (pairs.length) (fun g i wx => ∃ (m : Nat), i = .int .i64 m ∧ m ≤ pairs.length ∧ g = pairs.length - m ∧ Hid (Below (w5.alloc (.cells #[.slice A' k.names.length c', .slice B' k.order.length d'] 25)).heap.size (w5.alloc (.cells #[.slice A' k.names.length c', .slice B' k.order.length d'] 25)) wx))
                  case atStart => exact ⟨0, rfl, Nat.zero_le _, rfl, hbr⟩
                  case round =>
                    clear hbr
                    obtain ⟨m, rfl, hmm, rfl, hbr⟩ := hrel
                    obtain ⟨k0, k1, _, hbw, _⟩ := HF2.out _ hbr.out
                    by_cases hlt : m < pairs.length
                    · obtain ⟨_, _, _, hbw0, _⟩ := HF.out _ (HD.out _ hbr.out)
                      obtain ⟨qa, hqa, hx, hy⟩ := HQX.out _ hbw0 m hlt
                      subst hqa
                      obtain ⟨x, hxx⟩ : ∃ x, x = (pairs.getD m (0, 0)).1 := ⟨_, rfl⟩
                      obtain ⟨y, hyy⟩ : ∃ y, y = (pairs.getD m (0, 0)).2 := ⟨_, rfl⟩
                      have hv := HPP.out _ (getD_mem hlt)
                      rw [← hxx] at hx hv
                      rw [← hyy] at hy hv
                      have HXX := Lib.hid hxx
                      have HYY := Lib.hid hyy
                      have HV := Lib.hid hv
                      have hb0 := hbr.out
                      clear hxx hyy hv hbw hbw0
                      go_wp2_with fail
                      go_region_held3 (fun w' => w'.cell? ⟨w5.heap.size, 0, none⟩ = some (.slice A' k.names.length c') ∧ w'.cell? ⟨w5.heap.size, 1, none⟩ = some (.slice B' k.order.length d') ∧ w'.cell? (qa.add (m * 2)) = some (.int .i64 x) ∧ w'.cell? ⟨(qa.add (m * 2)).block, (qa.add (m * 2)).off + 1, none⟩ = some (.int .i64 y))
                        (first | go_keep | exact ⟨s0, s1, s2, s3⟩)
                        ((go_at_call 18; refine (KK.out _ (by first | assumption | exact Below.drew (by assumption)) x y true HV.out.symm).mono ?_; rintro e wa ⟨rfl, hba⟩; obtain ⟨s0, s1, _, _, _⟩ := HF2.out _ hba; obtain ⟨_, _, _, sb, _⟩ := HF.out _ (HD.out _ hba); obtain ⟨qb, hqb, s2, s3⟩ := HQX.out _ sb m hlt; obtain rfl : qa = qb := Option.some.inj hqb; rw [← HXX.out] at s2; rw [← HYY.out] at s3))
                      have HBA := Lib.hid hba
                      clear hba sb s0 s1 s2 s3 hx hy hb0 k0 k1
                      go_wp2
                      go_roundg (pairs.length - (m + 1))
                      case measure => omega
                      case rel => exact ⟨m + 1, by go_num, by omega, rfl, HBA⟩
                    · obtain rfl : m = pairs.length := by omega
                      have HBZ := Lib.hid (below_step HBW5.out (below_step (below_alloc (Below.refl _ _) _) hbr.out))
                      clear hbw
                      go_wp2
                      go_ret
                      exact ⟨rfl, HBZ.out⟩
      · go_wp2_with (go_at_call 9; refine HA3.out.mono ?_; rintro e w4 ⟨rfl, hb4⟩)
        go_ret
        exact ⟨rfl, below_step HBW3.out hb4⟩
end Go.Proofs.YtokogcfcaehifaaDoor.LawLeast
