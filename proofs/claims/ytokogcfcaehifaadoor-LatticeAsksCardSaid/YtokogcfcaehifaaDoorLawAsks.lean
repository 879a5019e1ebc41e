/- The law palisadelaw01.LatticeAsks answers true at every lattice and all numbers. Condition: the two tables of unicode/utf8 are laid. -/
import Derived.Test.YtokogcfcaehifaaDoorAwake
import Derived.Test.YtokogcfcaehifaaDoorAsk
import Derived.Deep.RegionHeld3
import Derived.BigRegion
namespace Go.Proofs.YtokogcfcaehifaaDoor.LawAsks
set_option linter.unusedVariables false
open Go.RowKit Go.Proofs.YtokogcfcaehifaaDoorW.PrintWords Go.Proofs.YtokogcfcaehifaaDoor.Aux Go.Proofs.YtokogcfcaehifaaDoor.LatSpec Go.Proofs.YtokogcfcaehifaaDoor.LatWalk Go.Proofs.YtokogcfcaehifaaDoor.LatF Go.Proofs.YtokogcfcaehifaaDoor.LatLeq Go.Proofs.YtokogcfcaehifaaDoor.LatJoin Go.Proofs.YtokogcfcaehifaaDoor.MakeSpec Go.Proofs.YtokogcfcaehifaaDoor.Mat Go.Proofs.YtokogcfcaehifaaDoor.MakeW Go.Proofs.YtokogcfcaehifaaDoor.AwakeSpec Go.Proofs.YtokogcfcaehifaaDoor.Awake Go.Proofs.YtokogcfcaehifaaDoor.Bottom Go.Proofs.YtokogcfcaehifaaDoor.SameW Go.Proofs.YtokogcfcaehifaaDoor.Ask
set_option maxRecDepth 100000 in
set_option maxHeartbeats 8000000 in
theorem law_calls (l : Lat) (A B : Option Addr) (c d : Nat) (a b : Int) (w : World) (h : LR w l A c B d) (hs : Ns l) (hT : Tb w) :
    Calls Tryd.prog 8 #[.agg #[.slice A l.names.length c, .slice B l.order.length d], .int .i64 a, .int .i64 b] w fun e w' => e = .returned (.bool true) ∧ Below w.heap.size w w' := by
  have hF := boxed (n := l.names.length) (m := l.order.length) h hT
  obtain ⟨c0, c1, hl, hbw, htb⟩ := hF _ (Below.refl _ _)
  have ha := awake_calls _ htb
  have HF := Lib.hid hF
  have HA := Lib.hid ha
  have HNS := Lib.hid hs
  have HL0 := Lib.hid h
  have HT0 := Lib.hid hT
  have hmn := (C_len h.2.2.1).2
  clear hF hl hbw htb ha h hs hT
  obtain ⟨t, ht⟩ : ∃ t, t = smallB l := ⟨_, rfl⟩
  have HT := Lib.hid ht
  clear ht
  go_enter Tryd.func8, Tryd.ntmps8
  go_wp2_with fail
  refine HA.out.mono ?_
  rintro e w1 ⟨rfl, hb1⟩
  clear c0 c1
  obtain ⟨c0, c1, hl, hbw, htb⟩ := HF.out _ hb1
  have hsm := small_calls l A B c d _ hl
  rw [← HT.out] at hsm
  have HSM := Lib.hid hsm
  have HB1 := Lib.hid hb1
  clear hsm hl hbw htb hb1
  go_wp2_with fail
  refine HSM.out.mono ?_
  rintro e w2 ⟨rfl, hb2⟩
  have hb0 := below_step HB1.out hb2
  clear c0 c1 hb2
  obtain ⟨c0, c1, hl, hbw, htb⟩ := HF.out _ hb0
  have ha2 := awake_calls _ htb
  have HA2 := Lib.hid ha2
  have HBW2 := Lib.hid hbw
  clear ha2 hl hbw htb
  cases t with
  | false =>
    go_wp2_with (go_at_call 9; refine HA2.out.mono ?_; rintro e w3 ⟨rfl, hb3⟩)
    go_ret
    exact ⟨rfl, below_step HBW2.out hb3⟩
  | true =>
    have hn100 : l.names.length ≤ 100 := by
      have := HT.out
      simp only [smallB, Bool.true_eq, Bool.and_eq_true, decide_eq_true_eq] at this
      exact this.2
    · have hl0 := HL0.out
      have hT0 := HT0.out
      obtain ⟨xs, hxs⟩ : ∃ xs, xs = belowN l a l.names.length := ⟨_, rfl⟩
      obtain ⟨v0, hv0⟩ : ∃ v, v = leqB l a b := ⟨_, rfl⟩
      obtain ⟨v1, hv1⟩ : ∃ v, v = joinI l true a b := ⟨_, rfl⟩
      obtain ⟨v2, hv2⟩ : ∃ v, v = joinI l false a b := ⟨_, rfl⟩
      obtain ⟨v3, hv3⟩ : ∃ v, v = bothI l a b := ⟨_, rfl⟩
      obtain ⟨v4, hv4⟩ : ∃ v, v = botI l := ⟨_, rfl⟩
      obtain ⟨v5, hv5⟩ : ∃ v, v = topI l := ⟨_, rfl⟩
      have K00 := Lib.hid (kept (Q := fun e _ => e = .returned (.bool v0)) (f := 18) (args := #[.agg #[.slice A l.names.length c, .slice B l.order.length d], .int .i64 a, .int .i64 b]) hl0 hT0 (fun W hl htb => by rw [hv0]; exact leq_calls l A B c d a b W hl HNS.out htb))
      have K01 := Lib.hid (kept (Q := fun e _ => e = .returned (.bool v0)) (f := 26) (args := #[.agg #[.slice A l.names.length c, .slice B l.order.length d], .int .i64 a, .int .i64 b]) hl0 hT0 (fun W hl htb => by rw [hv0]; exact refleq_calls l A B c d a b W hl HNS.out htb))
      have K10 := Lib.hid (kept (Q := fun e _ => e = .returned (.int .i64 v1)) (f := 19) (args := #[.agg #[.slice A l.names.length c, .slice B l.order.length d], .int .i64 a, .int .i64 b]) hl0 hT0 (fun W hl htb => by rw [hv1]; exact join_calls l A B c d a b W hl HNS.out htb))
      have K11 := Lib.hid (kept (Q := fun e _ => e = .returned (.int .i64 v1)) (f := 27) (args := #[.agg #[.slice A l.names.length c, .slice B l.order.length d], .int .i64 a, .int .i64 b]) hl0 hT0 (fun W hl htb => by rw [hv1]; exact refjoin_calls l A B c d a b W hl HNS.out htb))
      have K20 := Lib.hid (kept (Q := fun e _ => e = .returned (.int .i64 v2)) (f := 20) (args := #[.agg #[.slice A l.names.length c, .slice B l.order.length d], .int .i64 a, .int .i64 b]) hl0 hT0 (fun W hl htb => by rw [hv2]; exact meet_calls l A B c d a b W hl HNS.out htb))
      have K21 := Lib.hid (kept (Q := fun e _ => e = .returned (.int .i64 v2)) (f := 28) (args := #[.agg #[.slice A l.names.length c, .slice B l.order.length d], .int .i64 a, .int .i64 b]) hl0 hT0 (fun W hl htb => by rw [hv2]; exact refmeet_calls l A B c d a b W hl HNS.out htb))
      have K30 := Lib.hid (kept (Q := fun e _ => e = .returned (.int .i64 v3)) (f := 29) (args := #[.agg #[.slice A l.names.length c, .slice B l.order.length d], .int .i64 a, .int .i64 b]) hl0 hT0 (fun W hl htb => by rw [hv3]; exact both_calls l A B c d a b W hl HNS.out htb))
      have K31 := Lib.hid (kept (Q := fun e _ => e = .returned (.int .i64 v3)) (f := 30) (args := #[.agg #[.slice A l.names.length c, .slice B l.order.length d], .int .i64 a, .int .i64 b]) hl0 hT0 (fun W hl htb => by rw [hv3]; exact refboth_calls l A B c d a b W hl HNS.out htb))
      have K40 := Lib.hid (kept (Q := fun e _ => e = .returned (.int .i64 v4)) (f := 21) (args := #[.agg #[.slice A l.names.length c, .slice B l.order.length d]]) hl0 hT0 (fun W hl htb => by rw [hv4]; exact bottom_calls l A B c d W hl HNS.out htb))
      have K41 := Lib.hid (kept (Q := fun e _ => e = .returned (.int .i64 v4)) (f := 31) (args := #[.agg #[.slice A l.names.length c, .slice B l.order.length d]]) hl0 hT0 (fun W hl htb => by rw [hv4]; exact refbottom_calls l A B c d W hl HNS.out htb))
      have K50 := Lib.hid (kept (Q := fun e _ => e = .returned (.int .i64 v5)) (f := 22) (args := #[.agg #[.slice A l.names.length c, .slice B l.order.length d]]) hl0 hT0 (fun W hl htb => by rw [hv5]; exact top_calls l A B c d W hl HNS.out htb))
      have K51 := Lib.hid (kept (Q := fun e _ => e = .returned (.int .i64 v5)) (f := 32) (args := #[.agg #[.slice A l.names.length c, .slice B l.order.length d]]) hl0 hT0 (fun W hl htb => by rw [hv5]; exact reftop_calls l A B c d W hl HNS.out htb))
      have KB0 := Lib.hid (kept2 (Q := fun e w' => ∃ A1 cc, e = .returned (.slice A1 xs.length cc) ∧ (Kd.int .i64).C w' A1 xs.length xs) (f := 25) (args := #[.agg #[.slice A l.names.length c, .slice B l.order.length d], .int .i64 a]) hl0 hT0 (fun W hl htb => by
        refine (below_calls l A B c d a W hl HNS.out htb hn100).mono ?_
        rintro e w' ⟨v, he, hR, hb⟩
        rw [← hxs] at hR
        obtain ⟨A1, cc, hv, _, hC⟩ := Kd.R_reads hR
        exact ⟨⟨A1, cc, by rw [he, hv], hC⟩, hb⟩))
      have KB1 := Lib.hid (kept2 (Q := fun e w' => ∃ A1 cc, e = .returned (.slice A1 xs.length cc) ∧ (Kd.int .i64).C w' A1 xs.length xs) (f := 34) (args := #[.agg #[.slice A l.names.length c, .slice B l.order.length d], .int .i64 a]) hl0 hT0 (fun W hl htb => by
        refine (refbelow_calls l A B c d a W hl HNS.out htb hn100).mono ?_
        rintro e w' ⟨v, he, hR, hb⟩
        rw [← hxs] at hR
        obtain ⟨A1, cc, hv, _, hC⟩ := Kd.R_reads hR
        exact ⟨⟨A1, cc, by rw [he, hv], hC⟩, hb⟩))
      have KSI := Lib.hid (fun A1 A2 c1 c2 W (h1 : (Kd.int .i64).C W A1 xs.length xs) (h2 : (Kd.int .i64).C W A2 xs.length xs) => (sameints_calls xs xs A1 A2 c1 c2 W h1 h2).mono (fun e w' h => show e = .returned (.bool true) ∧ _ from ⟨by rw [h.1, eqB_true rfl], h.2⟩))
      clear hl0 hT0 hxs hv0 hv1 hv2 hv3 hv4 hv5
      go_wp2_with fail
      dsimp only [List.append]
      go_region_held3 (fun w' => w'.cell? ⟨w.heap.size, 0, none⟩ = some (.slice A l.names.length c) ∧ w'.cell? ⟨w.heap.size, 1, none⟩ = some (.slice B l.order.length d))
        (first | go_keep | exact ⟨s0, s1⟩)
        (first | (go_at_call 18; refine (K00.out _ (by first | assumption | exact Below.drew (by assumption))).mono ?_; rintro e wa ⟨rfl, hba, s0, s1, _⟩) | (go_at_call 26; refine (K01.out _ (by first | assumption | exact Below.drew (by assumption))).mono ?_; rintro e wa ⟨rfl, hba, s0, s1, _⟩) | (go_at_call 19; refine (K10.out _ (by first | assumption | exact Below.drew (by assumption))).mono ?_; rintro e wa ⟨rfl, hba, s0, s1, _⟩) | (go_at_call 27; refine (K11.out _ (by first | assumption | exact Below.drew (by assumption))).mono ?_; rintro e wa ⟨rfl, hba, s0, s1, _⟩) | (go_at_call 20; refine (K20.out _ (by first | assumption | exact Below.drew (by assumption))).mono ?_; rintro e wa ⟨rfl, hba, s0, s1, _⟩) | (go_at_call 28; refine (K21.out _ (by first | assumption | exact Below.drew (by assumption))).mono ?_; rintro e wa ⟨rfl, hba, s0, s1, _⟩) | (go_at_call 29; refine (K30.out _ (by first | assumption | exact Below.drew (by assumption))).mono ?_; rintro e wa ⟨rfl, hba, s0, s1, _⟩) | (go_at_call 30; refine (K31.out _ (by first | assumption | exact Below.drew (by assumption))).mono ?_; rintro e wa ⟨rfl, hba, s0, s1, _⟩) | (go_at_call 21; refine (K40.out _ (by first | assumption | exact Below.drew (by assumption))).mono ?_; rintro e wa ⟨rfl, hba, s0, s1, _⟩) | (go_at_call 31; refine (K41.out _ (by first | assumption | exact Below.drew (by assumption))).mono ?_; rintro e wa ⟨rfl, hba, s0, s1, _⟩) | (go_at_call 22; refine (K50.out _ (by first | assumption | exact Below.drew (by assumption))).mono ?_; rintro e wa ⟨rfl, hba, s0, s1, _⟩) | (go_at_call 32; refine (K51.out _ (by first | assumption | exact Below.drew (by assumption))).mono ?_; rintro e wa ⟨rfl, hba, s0, s1, _⟩) | (go_at_call 25; refine (KB0.out _ (by first | assumption | exact Below.drew (by assumption))).mono ?_; rintro e wb1 ⟨⟨A1, cc1, rfl, hC1⟩, hba, s0, s1, hW1⟩) | (go_at_call 34; refine (KB1.out _ (by first | assumption | exact Below.drew (by assumption))).mono ?_; rintro e wb2 ⟨⟨A2, cc2, rfl, hC2⟩, hba, s0, s1, hW2⟩; have hC3 := (show (Kd.int .i64).C wb2 _ _ xs by first | exact Kd.C_below hC1 hW2 | exact Kd.C_below (Kd.C_drew hC1) hW2)) | (go_at_call 33; refine (KSI.out _ _ _ _ _ (by first | exact hC3 | exact Kd.C_drew hC3) (by first | exact hC2 | exact Kd.C_drew hC2)).mono ?_; rintro e wz ⟨rfl, hbz⟩; have hz := (show Below (w.alloc (.cells #[.slice A l.names.length c, .slice B l.order.length d] 25)).heap.size (w.alloc (.cells #[.slice A l.names.length c, .slice B l.order.length d] 25)) wz by first | exact below_step hba hbz | exact below_step (Below.drew hba) hbz); obtain ⟨s0, s1, _, hzw, _⟩ := HF.out wz hz))
      go_wp2
      go_ret
      exact ⟨rfl, (by first | exact hzw | exact Below.drew hzw)⟩
end Go.Proofs.YtokogcfcaehifaaDoor.LawAsks
