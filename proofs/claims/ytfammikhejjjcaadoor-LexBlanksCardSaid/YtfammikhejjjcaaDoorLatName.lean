/- lattice.Name of the program, at every string: what it answers, in plain words. Condition: the two tables of unicode/utf8 are laid as the program's text lays them. -/
import Derived.Test.YtfammikhejjjcaaDoorProg
import Derived.Test.YtfammikhejjjcaaDoorChecked
import Derived.Test.YtfammikhejjjcaaDoorAux
import Derived.Test.YtfammikhejjjcaaDoorValid
import Derived.Test.YtfammikhejjjcaaDoorLatSpec
import Derived.Lib.OthersKept
import Derived.Lib.TrimUEq
import Derived.Deep.LoopGhost
import Derived.Outline
import Derived.WalkSmall
namespace Go.Proofs.YtfammikhejjjcaaDoor.LatName
set_option linter.unusedVariables false
open Go.RowKit Go.Proofs.YtfammikhejjjcaaDoorW.PrintWords Go.Proofs.YtfammikhejjjcaaDoor.Aux Go.Proofs.YtfammikhejjjcaaDoor.LatSpec
set_option maxHeartbeats 1600000 in
theorem name_calls (s : ByteArray) (w : World) (hs : s.size ≤ 9223372036854775807) (hT : Lib.Utf8Tabs 3 4 w) :
    Calls Tryd.prog 30 #[.string s] w fun e w' => e = .returned (.bool (nameP s.data.toList)) ∧ Below w.heap.size w w' := by
  have HT := Lib.hid hT
  clear hT
  go_enter Tryd.func30, Tryd.ntmps30
  go_wp2_with fail
  refine (Tryd.utf8_ValidString s _ hs HT.out).mono ?_
  rintro e w1 ⟨rfl, hb⟩
  have HB := Lib.hid hb
  clear hb
  cases hv : Lib.validD s.data.toList with
  | false =>
    go_wp2
    go_ret
    exact ⟨by simp [nameP, hv], HB.out⟩
  | true =>
    have HV := Lib.hid hv
    clear hv
    go_wp2_with fail
    obtain ⟨G, hG⟩ : ∃ G, G = w1.heap.size := ⟨_, rfl⟩
    have hit0 : (w1.iter s 0).heap[G]? = some (.stringIter s 0) := by rw [hG]; exact World.iter_heap w1 s 0
    have hb0 : Below w.heap.size w (w1.iter s 0) := below_alloc HB.out _
    have hGw : w.heap.size ≤ G := by rw [hG]; exact HB.out.size
    rw [← hG]
    generalize w1.iter s 0 = w2 at hit0 hb0 ⊢
    have HIT := Lib.hid hit0
    have HB0 := Lib.hid hb0
    clear hit0 hb0 hG HB
    have hl : s.data.toList.length = s.size := by simp
    have HL := Lib.hid hl
    clear hl
    go_loopw [3] (fun n wr => ∃ k p : Nat, n = .int .i64 k ∧ k ≤ p ∧ p ≤ s.size ∧ Hid (wr.heap[G]? = some (.stringIter s p)) ∧ Hid (Below w.heap.size w wr) ∧ Hid (pgo s.data.toList true = (pgo (s.data.toList.drop p) (decide (p = 0))).map (· + k)))
      (fun _ wr => s.size - wr.iterPos G)
    case atStart => exact ⟨0, 0, rfl, Nat.le_refl _, Nat.zero_le _, HIT, HB0, Lib.hid (by simp)⟩
    case round =>
      obtain ⟨k, p, rfl, hkp, hp, hit, hbr, hpg⟩ := hrel
      by_cases hlt : p < s.size
      · obtain ⟨r, hr⟩ : ∃ r, r = (Utf8.decode s p).1 := ⟨_, rfl⟩
        obtain ⟨d, hd⟩ : ∃ d, d = (Utf8.decode s p).2 := ⟨_, rfl⟩
        have hnx := fun ty => Lib.run_next_any_at (P := Tryd.prog) wr G s p ty hit.out hlt
        rw [← hr, ← hd] at hnx
        have hpos := Go.iterPos_of hit.out
        have hw := Lib.width_pos s p
        rw [← hd] at hw
        have hit2 := Lib.iterAt_heap wr G s p (p + d) hit.out
        have hb2 := Lib.below_iterAt hbr.out hGw s (p + d)
        have hpos2 := Go.iterPos_of hit2
        have HR := Lib.hid hr
        have HD := Lib.hid hd
        have HPOS := Lib.hid hpos
        clear hr hd hpos
        generalize wr.iterAt G s (p + d) = w3 at hnx hit2 hb2 hpos2
        have HIT2 := Lib.hid hit2
        have HB2 := Lib.hid hb2
        have HPOS2 := Lib.hid hpos2
        clear hit2 hb2 hpos2
        have hr32 : r ≤ 1114111 := by rw [HR.out]; exact Lib.rune_le s p
        rcases (show r < 48 ∨ (48 ≤ r ∧ r ≤ 57) ∨ (58 ≤ r ∧ r ≤ 64) ∨ (65 ≤ r ∧ r ≤ 90) ∨ (91 ≤ r ∧ r ≤ 96) ∨ (97 ≤ r ∧ r ≤ 122) ∨ (123 ≤ r ∧ r ≤ 944) ∨ (945 ≤ r ∧ r ≤ 969) ∨ 970 ≤ r from by omega) with ha | ⟨ha, hb⟩ | ⟨ha, hb⟩ | ⟨ha, hb⟩ | ⟨ha, hb⟩ | ⟨ha, hb⟩ | ⟨ha, hb⟩ | ⟨ha, hb⟩ | ha
        · by_cases h0 : p = 0
          · have e0 : ((p : Int) == 0) = true := by simp [h0]
            have h00 : p ≤ 0 := by omega
            clear h0
            go_wp2
            go_ret
            exact ⟨by rw [step_bad hlt HR.out hpg.out (by simp [letterR, digitR]; omega)]; rfl, HB2.out⟩
          · have e0 : ((p : Int) == 0) = false := by simp; omega
            have h00 : 1 ≤ p := by omega
            clear h0
            go_wp2
            go_ret
            exact ⟨by rw [step_bad hlt HR.out hpg.out (by simp [letterR, digitR]; omega)]; rfl, HB2.out⟩
        · by_cases h0 : p = 0
          · have e0 : ((p : Int) == 0) = true := by simp [h0]
            have HP0 := Lib.hid h0
            have h00 : p ≤ 0 := by omega
            clear h0
            go_wp2
            go_ret
            exact ⟨by rw [step_bad hlt HR.out hpg.out (by have := HP0.out; simp [letterR, digitR]; omega)]; rfl, HB2.out⟩
          · have e0 : ((p : Int) == 0) = false := by simp; omega
            have h00 : 1 ≤ p := by omega
            obtain ⟨q1, q2⟩ := step_good hlt HR.out HD.out hpg.out (by simp [letterR, digitR]; omega)
            have Q2 := Lib.hid q2
            clear q2
            go_wp2
            go_roundw
            case rel => exact ⟨k + 1, p + d, by go_num, by omega, q1, HIT2, HB2, Q2⟩
            case measure => rw [HPOS.out, HPOS2.out]; omega
        · by_cases h0 : p = 0
          · have e0 : ((p : Int) == 0) = true := by simp [h0]
            have h00 : p ≤ 0 := by omega
            clear h0
            go_wp2
            go_ret
            exact ⟨by rw [step_bad hlt HR.out hpg.out (by simp [letterR, digitR]; omega)]; rfl, HB2.out⟩
          · have e0 : ((p : Int) == 0) = false := by simp; omega
            have h00 : 1 ≤ p := by omega
            clear h0
            go_wp2
            go_ret
            exact ⟨by rw [step_bad hlt HR.out hpg.out (by simp [letterR, digitR]; omega)]; rfl, HB2.out⟩
        · obtain ⟨q1, q2⟩ := step_good hlt HR.out HD.out hpg.out (by simp [letterR, digitR]; omega)
          have Q2 := Lib.hid q2
          clear q2
          go_wp2
          go_roundw
          case rel => exact ⟨k + 1, p + d, by go_num, by omega, q1, HIT2, HB2, Q2⟩
          case measure => rw [HPOS.out, HPOS2.out]; omega
        · have d90 : decide ((r : Int) ≤ 90) = false := by simp; omega
          by_cases h0 : p = 0
          · have e0 : ((p : Int) == 0) = true := by simp [h0]
            have h00 : p ≤ 0 := by omega
            clear h0
            go_wp2
            go_ret
            exact ⟨by rw [step_bad hlt HR.out hpg.out (by simp [letterR, digitR]; omega)]; rfl, HB2.out⟩
          · have e0 : ((p : Int) == 0) = false := by simp; omega
            have h00 : 1 ≤ p := by omega
            clear h0
            go_wp2
            go_ret
            exact ⟨by rw [step_bad hlt HR.out hpg.out (by simp [letterR, digitR]; omega)]; rfl, HB2.out⟩
        · obtain ⟨q1, q2⟩ := step_good hlt HR.out HD.out hpg.out (by simp [letterR, digitR]; omega)
          have Q2 := Lib.hid q2
          clear q2
          go_wp2
          go_roundw
          case rel => exact ⟨k + 1, p + d, by go_num, by omega, q1, HIT2, HB2, Q2⟩
          case measure => rw [HPOS.out, HPOS2.out]; omega
        · have d122 : decide ((r : Int) ≤ 122) = false := by simp; omega
          have d90 : decide ((r : Int) ≤ 90) = false := by simp; omega
          by_cases h0 : p = 0
          · have e0 : ((p : Int) == 0) = true := by simp [h0]
            have h00 : p ≤ 0 := by omega
            clear h0
            go_wp2
            go_ret
            exact ⟨by rw [step_bad hlt HR.out hpg.out (by simp [letterR, digitR]; omega)]; rfl, HB2.out⟩
          · have e0 : ((p : Int) == 0) = false := by simp; omega
            have h00 : 1 ≤ p := by omega
            clear h0
            go_wp2
            go_ret
            exact ⟨by rw [step_bad hlt HR.out hpg.out (by simp [letterR, digitR]; omega)]; rfl, HB2.out⟩
        · obtain ⟨q1, q2⟩ := step_good hlt HR.out HD.out hpg.out (by simp [letterR, digitR]; omega)
          have Q2 := Lib.hid q2
          clear q2
          go_wp2
          go_roundw
          case rel => exact ⟨k + 1, p + d, by go_num, by omega, q1, HIT2, HB2, Q2⟩
          case measure => rw [HPOS.out, HPOS2.out]; omega
        · have d122 : decide ((r : Int) ≤ 122) = false := by simp; omega
          have d90 : decide ((r : Int) ≤ 90) = false := by simp; omega
          have d969 : decide ((r : Int) ≤ 969) = false := by simp; omega
          by_cases h0 : p = 0
          · have e0 : ((p : Int) == 0) = true := by simp [h0]
            have h00 : p ≤ 0 := by omega
            clear h0
            go_wp2
            go_ret
            exact ⟨by rw [step_bad hlt HR.out hpg.out (by simp [letterR, digitR]; omega)]; rfl, HB2.out⟩
          · have e0 : ((p : Int) == 0) = false := by simp; omega
            have h00 : 1 ≤ p := by omega
            clear h0
            go_wp2
            go_ret
            exact ⟨by rw [step_bad hlt HR.out hpg.out (by simp [letterR, digitR]; omega)]; rfl, HB2.out⟩
      · have hnx := fun ty => Lib.run_next_end_at (P := Tryd.prog) wr G s p ty hit.out hlt
        by_cases h1 : 1 ≤ k
        · by_cases h16 : k ≤ 16
          all_goals
            go_wp2
            go_ret
            exact ⟨by rw [name_end HV.out (by omega) hpg.out]; simp [*] <;> omega, hbr.out⟩
        · go_wp2
          go_ret
          exact ⟨by rw [name_end HV.out (by omega) hpg.out]; simp [*] <;> omega, hbr.out⟩
end Go.Proofs.YtfammikhejjjcaaDoor.LatName
