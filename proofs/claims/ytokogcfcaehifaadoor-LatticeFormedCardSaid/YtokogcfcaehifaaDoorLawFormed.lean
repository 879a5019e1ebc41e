/- The law palisadelaw01.LatticeFormed answers true at every lattice and text. Condition: the two tables of unicode/utf8 are laid. -/
import Derived.Test.YtokogcfcaehifaaDoorAwake
import Derived.Test.YtokogcfcaehifaaDoorRefFormed
import Derived.Deep.RegionHeld3
import Derived.BigRegion
namespace Go.Proofs.YtokogcfcaehifaaDoor.LawFormed
set_option linter.unusedVariables false
open Go.RowKit Go.Proofs.YtokogcfcaehifaaDoorW.PrintWords Go.Proofs.YtokogcfcaehifaaDoor.Aux Go.Proofs.YtokogcfcaehifaaDoor.LatSpec Go.Proofs.YtokogcfcaehifaaDoor.LatWalk Go.Proofs.YtokogcfcaehifaaDoor.LatF Go.Proofs.YtokogcfcaehifaaDoor.LatLeq Go.Proofs.YtokogcfcaehifaaDoor.LatJoin Go.Proofs.YtokogcfcaehifaaDoor.MakeSpec Go.Proofs.YtokogcfcaehifaaDoor.Mat Go.Proofs.YtokogcfcaehifaaDoor.MakeW Go.Proofs.YtokogcfcaehifaaDoor.AwakeSpec Go.Proofs.YtokogcfcaehifaaDoor.Awake
set_option maxRecDepth 100000 in
set_option maxHeartbeats 1600000 in
theorem law_calls (l : Lat) (A B : Option Addr) (c d : Nat) (s : ByteArray) (w : World) (h : LR w l A c B d) (hs : Ns l) (hss : s.size ≤ 9223372036854775807) (hT : Tb w) :
    Calls Tryd.prog 3 #[.agg #[.slice A l.names.length c, .slice B l.order.length d], .string s] w fun e w' => e = .returned (.bool true) ∧ Below w.heap.size w w' := by
  have hF := boxed (n := l.names.length) (m := l.order.length) h hT
  obtain ⟨c0, c1, hl, hbw, htb⟩ := hF _ (Below.refl _ _)
  have ha := awake_calls _ htb
  have HF := Lib.hid hF
  have HBW := Lib.hid hbw
  have HA := Lib.hid ha
  have HNS := Lib.hid hs
  clear hF hl hbw htb ha h hs hT
  obtain ⟨t, ht⟩ : ∃ t, t = smallB l := ⟨_, rfl⟩
  have HT := Lib.hid ht
  clear ht
  go_enter Tryd.func3, Tryd.ntmps3
  go_wp2_with fail
  refine HA.out.mono ?_
  rintro e w1 ⟨rfl, hb1⟩
  clear c0 c1
  obtain ⟨c0, c1, hl, hbw, htb⟩ := HF.out _ hb1
  have hsm := small_calls l A B c d _ hl
  rw [← HT.out] at hsm
  have HSM := Lib.hid hsm
  have HB1 := Lib.hid hb1
  clear hsm hl hbw htb hb1
  go_wp2_with fail
  refine HSM.out.mono ?_
  rintro e w2 ⟨rfl, hb2⟩
  have HB2 := Lib.hid (below_step HB1.out hb2)
  clear c0 c1 hb2
  obtain ⟨c0, c1, hl, hbw, htb⟩ := HF.out _ HB2.out
  have ha2 := awake_calls _ htb
  have HA2 := Lib.hid ha2
  have HBW2 := Lib.hid hbw
  have HTB2 := Lib.hid htb
  clear ha2 hl hbw htb
  cases t with
  | false =>
    go_wp2_with (go_at_call 9; refine HA2.out.mono ?_; rintro e w3 ⟨rfl, hb3⟩)
    go_ret
    exact ⟨rfl, below_step HBW2.out hb3⟩
  | true =>
    by_cases hbig : s.size ≤ 10000
    · obtain ⟨fm, hfm⟩ : ∃ t, t = formedB l := ⟨_, rfl⟩
      obtain ⟨nm, hnm⟩ : ∃ t, t = nameP s.data.toList := ⟨_, rfl⟩
      have K1 := Lib.hid (show ∀ W, Below w2.heap.size w2 W → Calls Tryd.prog 11 #[.agg #[.slice A l.names.length c, .slice B l.order.length d]] W fun e w' => e = .returned (.bool fm) ∧ Below w2.heap.size w2 w' ∧ w'.cell? ⟨w.heap.size, 0, none⟩ = some (.slice A l.names.length c) ∧ w'.cell? ⟨w.heap.size, 1, none⟩ = some (.slice B l.order.length d) from fun W hW => by
        obtain ⟨_, _, hl, _, htb⟩ := HF.out _ (below_step HB2.out hW)
        refine (formed_c l A B c d W hl HNS.out htb).mono ?_
        rintro e w' ⟨he, hb⟩
        have hb' := below_step hW hb
        obtain ⟨k0, k1, _⟩ := HF.out _ (below_step HB2.out hb')
        exact ⟨by rw [he, hfm], hb', k0, k1⟩)
      have K2 := Lib.hid (show ∀ W, Below w2.heap.size w2 W → Calls Tryd.prog 12 #[.agg #[.slice A l.names.length c, .slice B l.order.length d]] W fun e w' => e = .returned (.bool fm) ∧ Below w2.heap.size w2 w' ∧ w'.cell? ⟨w.heap.size, 0, none⟩ = some (.slice A l.names.length c) ∧ w'.cell? ⟨w.heap.size, 1, none⟩ = some (.slice B l.order.length d) from fun W hW => by
        obtain ⟨_, _, hl, _, htb⟩ := HF.out _ (below_step HB2.out hW)
        refine (RefFormed.formed_calls l A B c d W hl HNS.out).mono ?_
        rintro e w' ⟨he, hb⟩
        have hb' := below_step hW hb
        obtain ⟨k0, k1, _⟩ := HF.out _ (below_step HB2.out hb')
        exact ⟨by rw [he, hfm], hb', k0, k1⟩)
      have K3 := Lib.hid (show ∀ W, Below w2.heap.size w2 W → Calls Tryd.prog 13 #[.string s] W fun e w' => e = .returned (.bool nm) ∧ Below w2.heap.size w2 w' from fun W hW => by
        refine (LatName.name_calls s W hss (HTB2.out W hW)).mono ?_
        rintro e w' ⟨he, hb⟩
        exact ⟨by rw [he, hnm], below_step hW hb⟩)
      have K4 := Lib.hid (show ∀ W, Below w2.heap.size w2 W → Calls Tryd.prog 14 #[.string s] W fun e w' => e = .returned (.bool nm) ∧ Below w2.heap.size w2 w' from fun W hW => by
        refine (RefName.name_calls s W hss).mono ?_
        rintro e w' ⟨he, rfl⟩
        exact ⟨by rw [he, hnm], hW⟩)
      have hb0 := Below.refl w2.heap.size w2
      clear hfm hnm
      go_wp2_with fail
      go_region_law (first
        | (go_simp; go_at_call 11; refine (K1.out _ (by first | assumption | exact Below.drew (by assumption))).mono ?_; rintro e wa ⟨rfl, hba, ca0, ca1⟩)
        | (go_simp; go_at_call 12; refine (K2.out _ (by first | assumption | exact Below.drew (by assumption))).mono ?_; rintro e wb ⟨rfl, hbb, cb0, cb1⟩)
        | (go_simp; go_at_call 13; refine (K3.out _ (by first | assumption | exact Below.drew (by assumption))).mono ?_; rintro e wc ⟨rfl, hbc⟩)
        | (go_simp; go_at_call 14; refine (K4.out _ (by first | assumption | exact Below.drew (by assumption))).mono ?_; rintro e wd ⟨rfl, hbd⟩))
      all_goals
        go_wp2
        go_ret
        exact ⟨rfl, below_step HBW2.out hbd⟩
    · go_wp2_with (go_at_call 9; refine HA2.out.mono ?_; rintro e w3 ⟨rfl, hb3⟩)
      go_ret
      exact ⟨rfl, below_step HBW2.out hb3⟩
end Go.Proofs.YtokogcfcaehifaaDoor.LawFormed
