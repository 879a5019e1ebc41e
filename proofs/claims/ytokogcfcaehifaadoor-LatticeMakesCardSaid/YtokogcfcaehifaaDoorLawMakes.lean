/- The law palisadelaw01.LatticeMakes answers true at every list of names and pairs. Condition: the two tables of unicode/utf8 are laid. -/
import Derived.Test.YtokogcfcaehifaaDoorAwake
import Derived.Test.YtokogcfcaehifaaDoorRefMake
import Derived.Test.YtokogcfcaehifaaDoorSame
namespace Go.Proofs.YtokogcfcaehifaaDoor.LawMakes
set_option linter.unusedVariables false
open Go.RowKit Go.Proofs.YtokogcfcaehifaaDoorW.PrintWords Go.Proofs.YtokogcfcaehifaaDoor.Aux Go.Proofs.YtokogcfcaehifaaDoor.LatSpec Go.Proofs.YtokogcfcaehifaaDoor.LatWalk Go.Proofs.YtokogcfcaehifaaDoor.LatF Go.Proofs.YtokogcfcaehifaaDoor.LatLeq Go.Proofs.YtokogcfcaehifaaDoor.LatJoin Go.Proofs.YtokogcfcaehifaaDoor.MakeSpec Go.Proofs.YtokogcfcaehifaaDoor.Mat Go.Proofs.YtokogcfcaehifaaDoor.MakeW Go.Proofs.YtokogcfcaehifaaDoor.AwakeSpec Go.Proofs.YtokogcfcaehifaaDoor.Awake Go.Proofs.YtokogcfcaehifaaDoor.SameW
theorem noLat_formed : formedB noLat = false := formedB_false (fun h => by have := h.few.1; simp [noLat] at this)
theorem said_ok {names : List ByteArray} {pairs : List (Int × Int)} {l : Lat} {e : Int} (h : MakeSaid names pairs l e) : (formedB l = true ∧ e = 0) ∨ (formedB l = false ∧ e ≠ 0) := by
  rcases h with ⟨_, rfl, rfl⟩ | ⟨_, _, _, rfl, rfl⟩ | ⟨_, _, _, M, _, ⟨h1, rfl, rfl⟩ | ⟨h1, rfl, rfl⟩⟩
  · exact .inr ⟨noLat_formed, by omega⟩
  · exact .inr ⟨noLat_formed, by omega⟩
  · exact .inl ⟨h1, rfl⟩
  · exact .inr ⟨noLat_formed, by omega⟩
theorem said_ns {names : List ByteArray} {pairs : List (Int × Int)} {l : Lat} {e : Int} (hs : ∀ s ∈ names, s.size ≤ 9223372036854775807) (h : MakeSaid names pairs l e) : Ns l := by
  rcases h with ⟨_, rfl, rfl⟩ | ⟨_, _, _, rfl, rfl⟩ | ⟨_, _, _, M, _, ⟨h1, rfl, rfl⟩ | ⟨h1, rfl, rfl⟩⟩
  · intro s h; simp [noLat] at h
  · intro s h; simp [noLat] at h
  · exact hs
  · intro s h; simp [noLat] at h
set_option maxRecDepth 100000 in
set_option maxHeartbeats 1600000 in
theorem law_calls (names : List ByteArray) (pairs : List (Int × Int)) (A Q : Option Addr) (c cq : Nat) (w : World) (hA : Kd.string.C w A names.length names) (hs : ∀ s ∈ names, s.size ≤ 9223372036854775807) (hQ : (Kd.pair (Kd.int .i64) (Kd.int .i64)).C w Q pairs.length pairs) (hT : Tb w) :
    Calls Tryd.prog 4 #[.slice A names.length c, .slice Q pairs.length cq] w fun e w' => e = .returned (.bool true) ∧ Below w.heap.size w w' := by
  have HA := Lib.hid hA
  have HQ := Lib.hid hQ
  have HS := Lib.hid hs
  have HT := Lib.hid hT
  have m1 := (C_len hA).2
  have m2 := (C_len hQ).2
  have HAW := Lib.hid (awake_calls w hT)
  clear hA hQ hs hT
  by_cases hbig : names.length ≤ 100 ∧ pairs.length ≤ 300
  · obtain ⟨g1, g2⟩ := hbig
    go_enter Tryd.func4, Tryd.ntmps4
    go_wp2_with fail
    refine HAW.out.mono ?_
    rintro e w1 ⟨rfl, hb1⟩
    have HB1 := Lib.hid hb1
    clear hb1
    go_wp2_with fail
    go_loopg [5] (names.length) (fun g i wx => ∃ k : Nat, i = .int .i64 k ∧ k ≤ names.length ∧ g = names.length - k ∧ w1 = wx)
    case atStart => exact ⟨0, rfl, Nat.zero_le _, rfl, rfl⟩
    case round =>
      obtain ⟨k, rfl, hk, rfl, rfl⟩ := hrel
      by_cases hlt : k < names.length
      · obtain ⟨ad, rfl, hc⟩ := C_str_get (Kd.C_below HA.out HB1.out) hlt
        generalize names.getD k ByteArray.empty = x at hc
        by_cases hx : 1000 < x.size
        · go_wp2
          go_ret
          exact ⟨rfl, HB1.out⟩
        · go_wp2
          go_roundg (names.length - (k + 1))
          case measure => omega
          case rel => exact ⟨k + 1, by go_num, by omega, rfl, rfl⟩
      · obtain rfl : k = names.length := by omega
        go_wp2_with fail
        refine (make_calls names pairs A Q c cq _ (Kd.C_below HA.out HB1.out) (Kd.C_below HQ.out HB1.out) HS.out (HT.out.below HB1.out)).mono ?_
        rintro e w2 ⟨l, err, A1, c1, B1, d1, rfl, hLR, hsaid, hb2⟩
        have HB2 := Lib.hid (below_step HB1.out hb2)
        have HLR := Lib.hid hLR
        have HSAID := Lib.hid hsaid
        clear hLR hsaid hb2
        go_wp2_with fail
        have hb3 := below_step HB2.out (below_alloc (Below.refl w2.heap.size w2) (.cells #[.slice A1 l.names.length c1, .slice B1 l.order.length d1] 25))
        refine (RefMake.make_calls names pairs A Q c cq _ (Kd.C_below HA.out hb3) (Kd.C_below HQ.out hb3) HS.out).mono ?_
        rintro e w3 ⟨l', err', A2, c2, B2, d2, rfl, hLR2, hsaid, hb4⟩
        obtain ⟨rfl, rfl⟩ := HSAID.out.unique hsaid
        have hns := said_ns HS.out hsaid
        have HF := Lib.hid (show ∀ W, Below (w3.alloc (.cells #[.slice A2 l.names.length c2, .slice B2 l.order.length d2] 25)).heap.size (w3.alloc (.cells #[.slice A2 l.names.length c2, .slice B2 l.order.length d2] 25)) W → W.cell? ⟨w2.heap.size, 0, none⟩ = some (.slice A1 l.names.length c1) ∧ W.cell? ⟨w2.heap.size, 1, none⟩ = some (.slice B1 l.order.length d1) ∧ W.cell? ⟨w3.heap.size, 0, none⟩ = some (.slice A2 l.names.length c2) ∧ W.cell? ⟨w3.heap.size, 1, none⟩ = some (.slice B2 l.order.length d2) ∧ LR W l A1 c1 B1 d1 ∧ LR W l A2 c2 B2 d2 ∧ Below w.heap.size w W from fun W hW => by
          have ha := below_alloc (Below.refl w2.heap.size w2) (.cells #[.slice A1 l.names.length c1, .slice B1 l.order.length d1] 25)
          have hb := below_alloc (Below.refl w3.heap.size w3) (.cells #[.slice A2 l.names.length c2, .slice B2 l.order.length d2] 25)
          have k1 := blk_below (blk_below (blk_below (blk_new w2 (.cells #[.slice A1 l.names.length c1, .slice B1 l.order.length d1] 25)) hb4) hb) hW
          have k2 := blk_below (blk_new w3 (.cells #[.slice A2 l.names.length c2, .slice B2 l.order.length d2] 25)) hW
          exact ⟨(blk_cell k1 0).trans rfl, (blk_cell k1 1).trans rfl, (blk_cell k2 0).trans rfl, (blk_cell k2 1).trans rfl, HLR.out.below (below_step (below_step (below_step ha hb4) hb) hW), hLR2.below (below_step hb hW), below_step (below_step (below_step hb3 hb4) hb) hW⟩)
        have HNS := Lib.hid hns
        have HOK := Lib.hid (said_ok hsaid)
        obtain ⟨c0, c1', c2', c3, hl1, hl2, hbw⟩ := HF.out _ (Below.refl _ _)
        have hsm := refsame_calls l l A1 B1 A2 B2 c1 d1 c2 d2 _ hl1 hl2
        rw [eqB_true rfl] at hsm
        have HSM := Lib.hid hsm
        clear hsm hl1 hl2 hbw hns hsaid hLR2 hb3 hb4
        have h0 : (err == err) = true := by simp
        go_wp2_with fail
        refine HSM.out.mono ?_
        rintro e w4 ⟨rfl, hb5⟩
        clear c0 c1' c2' c3
        obtain ⟨c0, c1', c2', c3, hl1, hl2, hbw⟩ := HF.out _ hb5
        have hfc := formed_c l A1 B1 c1 d1 _ hl1 HNS.out (HT.out.below hbw)
        obtain ⟨f, hf⟩ : ∃ f, f = formedB l := ⟨_, rfl⟩
        rw [← hf] at hfc
        have HFC := Lib.hid hfc
        have HBW := Lib.hid hbw
        have hok := HOK.out
        rw [← hf] at hok
        clear hfc hl1 hl2 hbw hf hb5
        cases f with
        | true =>
          obtain rfl : err = 0 := by
            rcases hok with ⟨_, h⟩ | ⟨h, _⟩
            · exact h
            · cases h
          clear hok
          go_wp2_with (go_at_call 11; refine HFC.out.mono ?_; rintro e w5 ⟨rfl, hb6⟩)
          go_ret
          exact ⟨rfl, below_step HBW.out hb6⟩
        | false =>
          have he : err ≠ 0 := by
            rcases hok with ⟨h, _⟩ | ⟨_, h⟩
            · cases h
            · exact h
          have h1 : (err == 0) = false := beq_eq_false_iff_ne.2 he
          clear hok he
          go_wp2_with (go_at_call 11; refine HFC.out.mono ?_; rintro e w5 ⟨rfl, hb6⟩)
          go_ret
          exact ⟨rfl, below_step HBW.out hb6⟩
  · by_cases hb0 : names.length ≤ 100
    · have hb1 : 300 < pairs.length := by omega
      clear hbig
      go_enter Tryd.func4, Tryd.ntmps4
      go_wp2_with fail
      refine HAW.out.mono ?_
      rintro e w1 ⟨rfl, hb1⟩
      have HB1 := Lib.hid hb1
      have HA2 := Lib.hid (awake_calls w1 (HT.out.below hb1))
      clear hb1
      go_wp2_with (go_at_call 9; refine HA2.out.mono ?_; rintro e w2 ⟨rfl, hb2⟩)
      go_ret
      exact ⟨rfl, below_step HB1.out hb2⟩
    · clear hbig
      go_enter Tryd.func4, Tryd.ntmps4
      go_wp2_with fail
      refine HAW.out.mono ?_
      rintro e w1 ⟨rfl, hb1⟩
      have HB1 := Lib.hid hb1
      have HA2 := Lib.hid (awake_calls w1 (HT.out.below hb1))
      clear hb1
      go_wp2_with (go_at_call 9; refine HA2.out.mono ?_; rintro e w2 ⟨rfl, hb2⟩)
      go_ret
      exact ⟨rfl, below_step HB1.out hb2⟩
end Go.Proofs.YtokogcfcaehifaaDoor.LawMakes
