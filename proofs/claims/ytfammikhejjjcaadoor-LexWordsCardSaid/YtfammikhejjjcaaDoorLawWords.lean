/- The law palisadelaw05.LexWords answers true at every text. Conditions: what is laid. -/
import Derived.Test.YtfammikhejjjcaaDoorLawReads
import Derived.BigRegion
namespace Go.Proofs.YtfammikhejjjcaaDoor.Lex
set_option linter.unusedVariables false
set_option linter.unusedSimpArgs false
open Go Go.Lib Go.RowKit Go.Proofs.YtfammikhejjjcaaDoorW.PrintWords Go.Proofs.YtfammikhejjjcaaDoor.Aux Go.Proofs.YtfammikhejjjcaaDoor.LatSpec Go.Proofs.YtfammikhejjjcaaDoor.LexSpec Go.Proofs.YtfammikhejjjcaaDoor.Kinds
set_option maxRecDepth 100000 in
set_option maxHeartbeats 3200000 in
theorem wordslaw_calls (s : ByteArray) (w : World) (hT : Tbx w) : Calls Tryd.prog 4 #[.string s] w fun e w' => e = .returned (.bool true) ∧ Below w.heap.size w w' := by
  have HA := Lib.hid (awake_calls w hT)
  have HT := Lib.hid hT
  clear hT
  by_cases hbig : 1000 < s.size
  · go_enter Tryd.func4, Tryd.ntmps4
    go_wp2_with fail
    refine HA.out.mono ?_
    rintro e w1 ⟨rfl, hb1⟩
    have HA1 := Lib.hid (awake_calls w1 (HT.out.below hb1))
    go_wp2_with (go_at_call 9; refine HA1.out.mono ?_; rintro e w2 ⟨rfl, hb2⟩)
    go_ret
    exact ⟨rfl, below_step hb1 hb2⟩
  · obtain ⟨t, ht⟩ : ∃ t, isKw s.data.toList = t := ⟨_, rfl⟩
    have HK := Lib.hid (fun W (hW : Tbx W) => keyword_calls s t W hW ht)
    have HRK := Lib.hid (fun W => refkeyword_calls s t W ht)
    have et : (t != t) = false := by simp
    clear ht
    go_enter Tryd.func4, Tryd.ntmps4
    go_wp2_with fail
    refine HA.out.mono ?_
    rintro e w1 ⟨rfl, hb1⟩
    have HB1 := Lib.hid hb1
    have HW := Lib.hid (words_calls w1 (HT.out.below hb1))
    clear hb1
    go_wp2_with fail
    refine HW.out.mono ?_
    rintro e w2 ⟨rfl, hb2, hc⟩
    have HC := Lib.hid hc
    have HB2 := Lib.hid (below_step HB1.out hb2)
    have HR := Lib.hid (refwords_calls w2)
    clear hb2 hc
    go_wp2_with fail
    refine HR.out.mono ?_
    rintro e w3 ⟨rfl, hb3, hc3⟩
    have HC2 := Lib.hid (Kd.C_below HC.out hb3)
    have HC3 := Lib.hid hc3
    have HB3 := Lib.hid (below_step HB2.out hb3)
    have HKC := Lib.hid (HK.out w3 (HT.out.below HB3.out))
    clear hb3 hc3
    go_wp2_with fail
    refine HKC.out.mono ?_
    rintro e w4 ⟨rfl, hb4⟩
    have HC4 := Lib.hid (Kd.C_below HC2.out hb4)
    have HC5 := Lib.hid (Kd.C_below HC3.out hb4)
    have HB4 := Lib.hid (below_step HB3.out hb4)
    have HRC := Lib.hid (HRK.out w4)
    clear hb4
    go_wp2_with fail
    refine HRC.out.mono ?_
    rintro e w5 ⟨rfl, hb5⟩
    have HC6 := Lib.hid (Kd.C_below HC4.out hb5)
    have HC7 := Lib.hid (Kd.C_below HC5.out hb5)
    have HB5 := Lib.hid (below_step HB4.out hb5)
    have HR5 := Lib.hid (Below.refl w5.heap.size w5)
    clear hb5
    go_wp2_with fail
    go_loopg [5] (23) (fun g i wr => ∃ k : Nat, i = .int .i64 k ∧ k ≤ 23 ∧ g = 23 - k ∧ Hid (Below w5.heap.size w5 wr))
    case atStart => exact ⟨0, rfl, Nat.zero_le _, rfl, HR5⟩
    case round =>
      obtain ⟨k, rfl, hk, rfl, hbr⟩ := hrel
      by_cases hlt : k < 23
      · obtain ⟨ad, hA, hc⟩ := C_str_get (Kd.C_below HC6.out hbr.out) hlt
        obtain ⟨ad2, hA2, hc2⟩ := C_str_get (Kd.C_below HC7.out hbr.out) hlt
        obtain rfl := Option.some.inj hA
        obtain rfl := Option.some.inj hA2
        obtain ⟨x, hx⟩ : ∃ x, kws.getD k ByteArray.empty = x := ⟨_, rfl⟩
        rw [Go.Proofs.YtfammikhejjjcaaDoorW.PrintWords.add_plain, hx] at hc hc2
        have hkw : isKw x.data.toList = true := by
          rw [isKw_iff, ← hx, List.getD_eq_getElem?_getD, List.getElem?_eq_getElem (by rw [kws_len]; exact hlt)]
          exact List.getElem_mem _
        have HKX := Lib.hid (fun W (hW : Below wr.heap.size wr W) => keyword_calls x true W (((HT.out.below HB5.out).below hbr.out).below hW) hkw)
        have hs : (x.toList != x.toList) = false := by simp
        have HB0 := Lib.hid (Below.refl wr.heap.size wr)
        have hk0 : (0 : Int) ≤ k := by omega
        clear hx hkw hA hA2
        go_wp2_with fail
        go_region_with (go_at_call 16; refine (HKX.out _ (by first | exact HB0.out | exact Below.drew HB0.out)).mono ?_; rintro e w6 ⟨rfl, hb6⟩)
        all_goals
          have HBN : Hid (Below w5.heap.size w5 w6) := Lib.hid (by first | exact below_step hbr.out hb6 | exact below_step hbr.out.drew hb6)
          clear hb6
          go_wp2
          go_roundg (23 - (k + 1))
          case measure => omega
          case rel => exact ⟨k + 1, by go_num, by omega, rfl, by first | exact HBN | exact Lib.hid HBN.out.drew⟩
      · obtain rfl : k = 23 := by omega
        go_wp2
        go_ret
        exact ⟨rfl, below_step HB5.out hbr.out⟩
end Go.Proofs.YtfammikhejjjcaaDoor.Lex
