/- palisaderef01.Name, the reference's, at every string: it answers what lattice.Name answers. No condition. -/
import Derived.Test.YtfammikhejjjcaaDoorProg
import Derived.Test.YtfammikhejjjcaaDoorChecked
import Derived.Test.YtfammikhejjjcaaDoorAux
import Derived.Test.YtfammikhejjjcaaDoorLatSpec
import Derived.Outline
import Derived.Deep.LoopGhost
namespace Go.Proofs.YtfammikhejjjcaaDoor.RefName
set_option linter.unusedVariables false
open Go.RowKit Go.Proofs.YtfammikhejjjcaaDoorW.PrintWords Go.Proofs.YtfammikhejjjcaaDoor.Aux Go.Proofs.YtfammikhejjjcaaDoor.LatSpec
def letterI (r : Int) : Bool := (decide (97 ≤ r) && decide (r ≤ 122)) || (decide (65 ≤ r) && decide (r ≤ 90)) || (decide (945 ≤ r) && decide (r ≤ 969))
set_option maxHeartbeats 800000 in
theorem letter_is (r : Int) (t : Bool) (w : World) (h : letterI r = t) : Calls Tryd.prog 47 #[.int .i32 r] w fun e w' => e = .returned (.bool t) ∧ w = w' := by
  subst h
  rcases (show r < 65 ∨ (65 ≤ r ∧ r ≤ 90) ∨ (91 ≤ r ∧ r ≤ 96) ∨ (97 ≤ r ∧ r ≤ 122) ∨ (123 ≤ r ∧ r ≤ 944) ∨ (945 ≤ r ∧ r ≤ 969) ∨ 970 ≤ r from by omega) with ha | ⟨ha, hb⟩ | ⟨ha, hb⟩ | ⟨ha, hb⟩ | ⟨ha, hb⟩ | ⟨ha, hb⟩ | ha
  all_goals
    go_enter Tryd.func47, Tryd.ntmps47
    go_wp2
    go_ret
    exact ⟨ret_bool (by rw [Bool.eq_iff_iff]; simp [letterI]; omega), rfl⟩
theorem rgo_low {b : UInt8} {t : List UInt8} {first : Bool} (h : b.toNat < 128) : rgo (b :: t) first = if (letterR b.toNat || (!first && digitR b.toNat)) = true then (rgo t false).map (· + 1) else none := by
  rw [rgo.eq_def]
  simp only [h, if_true]
theorem rgo_last {b : UInt8} {first : Bool} (h : ¬ b.toNat < 128) : rgo [b] first = none := by
  rw [rgo.eq_def]
  simp only [h, if_false]
theorem rgo_high {b c : UInt8} {t : List UInt8} {first : Bool} (h : ¬ b.toNat < 128) : rgo (b :: c :: t) first = if greek b.toNat c.toNat = true then (rgo t false).map (· + 1) else none := by
  rw [rgo.eq_def]
  simp only [h, if_false]
/-- The relation's steps, in plain words. -/
theorem rstep_low {s : ByteArray} {k p : Nat} {b : Int} (hp : p < s.size) (hb : ∀ h : p < s.size, ((s[p]'h).toNat : Int) = b) (hl : b < 128) (hr : rgo s.data.toList true = (rgo (s.data.toList.drop p) (decide (p = 0))).map (· + k)) :
    (letterR b.toNat || (!(decide (p = 0)) && digitR b.toNat)) = true ∧ rgo s.data.toList true = (rgo (s.data.toList.drop (p + 1)) (decide (p + 1 = 0))).map (· + (k + 1)) ∨
      (letterR b.toNat || (!(decide (p = 0)) && digitR b.toNat)) = false ∧ nameP s.data.toList = false := by
  have hlen : p < s.data.toList.length := by simpa using hp
  have e : s.data.toList[p] = s[p]'hp := rfl
  have hd := List.drop_eq_getElem_cons hlen
  have hb2 : (s.data.toList[p]).toNat = b.toNat := by rw [e]; have := hb hp; omega
  have hlt : (s.data.toList[p]).toNat < 128 := by rw [e]; have := hb hp; omega
  rw [hd, rgo_low hlt, hb2] at hr
  by_cases hg : (letterR b.toNat || (!(decide (p = 0)) && digitR b.toNat)) = true
  · refine .inl ⟨hg, ?_⟩
    rw [if_pos hg] at hr
    rw [hr, Option.map_map]
    congr 1
    funext x
    simp
    omega
  · refine .inr ⟨by simpa using hg, ?_⟩
    rw [if_neg hg] at hr
    rw [← name_eq, nameR, hr]
    rfl
theorem rstep_last {s : ByteArray} {k p : Nat} {b : Int} (hp : p < s.size) (hb : ∀ h : p < s.size, ((s[p]'h).toNat : Int) = b) (hl : 128 ≤ b) (hq : ¬ p + 1 < s.size) (hr : rgo s.data.toList true = (rgo (s.data.toList.drop p) (decide (p = 0))).map (· + k)) : nameP s.data.toList = false := by
  have hlen : p < s.data.toList.length := by simpa using hp
  have e : s.data.toList[p] = s[p]'hp := rfl
  have hd := List.drop_eq_getElem_cons hlen
  have hlt : ¬ (s.data.toList[p]).toNat < 128 := by rw [e]; have := hb hp; omega
  have hnil : s.data.toList.drop (p + 1) = [] := by rw [List.drop_eq_nil_iff]; simp; omega
  rw [hd, hnil, rgo_last hlt] at hr
  rw [← name_eq, nameR, hr]
  rfl
theorem rstep_high {s : ByteArray} {k p : Nat} {b c : Int} (hp : p < s.size) (hb : ∀ h : p < s.size, ((s[p]'h).toNat : Int) = b) (hl : 128 ≤ b) (hq : p + 1 < s.size) (hc : ∀ h : p + 1 < s.size, ((s[p + 1]'h).toNat : Int) = c) (hr : rgo s.data.toList true = (rgo (s.data.toList.drop p) (decide (p = 0))).map (· + k)) :
    greek b.toNat c.toNat = true ∧ rgo s.data.toList true = (rgo (s.data.toList.drop (p + 2)) (decide (p + 2 = 0))).map (· + (k + 1)) ∨ greek b.toNat c.toNat = false ∧ nameP s.data.toList = false := by
  have hlen : p < s.data.toList.length := by simpa using hp
  have hlen2 : p + 1 < s.data.toList.length := by simpa using hq
  have e : s.data.toList[p] = s[p]'hp := rfl
  have e2 : s.data.toList[p + 1] = s[p + 1]'hq := rfl
  have hlt : ¬ (s.data.toList[p]).toNat < 128 := by rw [e]; have := hb hp; omega
  have hb2 : (s.data.toList[p]).toNat = b.toNat := by rw [e]; have := hb hp; omega
  have hc2 : (s.data.toList[p + 1]).toNat = c.toNat := by rw [e2]; have := hc hq; omega
  rw [List.drop_eq_getElem_cons hlen, List.drop_eq_getElem_cons hlen2, rgo_high hlt, hb2, hc2] at hr
  by_cases hg : greek b.toNat c.toNat = true
  · refine .inl ⟨hg, ?_⟩
    rw [if_pos hg] at hr
    rw [hr, Option.map_map]
    congr 1
    funext x
    simp
    omega
  · refine .inr ⟨by simpa using hg, ?_⟩
    rw [if_neg hg] at hr
    rw [← name_eq, nameR, hr]
    rfl
theorem rstep_end {s : ByteArray} {k p : Nat} (hp : s.size ≤ p) (hr : rgo s.data.toList true = (rgo (s.data.toList.drop p) (decide (p = 0))).map (· + k)) : nameP s.data.toList = (decide (1 ≤ k) && decide (k ≤ 16)) := by
  have e : s.data.toList.drop p = [] := by rw [List.drop_eq_nil_iff]; simpa using hp
  rw [← name_eq, nameR, hr, e]
  simp [rgo]
set_option maxRecDepth 100000 in
set_option maxHeartbeats 1600000 in
theorem name_calls (s : ByteArray) (w : World) (hs : s.size ≤ 9223372036854775807) :
    Calls Tryd.prog 35 #[.string s] w fun e w' => e = .returned (.bool (nameP s.data.toList)) ∧ w = w' := by
  go_enter Tryd.func35, Tryd.ntmps35
  go_wp2
  go_loop [3, 4] (fun n i => ∃ k p : Nat, n = .int .i64 k ∧ i = .int .i64 p ∧ k ≤ p ∧ p ≤ s.size ∧ Hid (rgo s.data.toList true = (rgo (s.data.toList.drop p) (decide (p = 0))).map (· + k))) (fun _ i => s.size - (intOf i).toNat)
  case atStart => exact ⟨0, 0, rfl, rfl, Nat.le_refl _, Nat.zero_le _, Lib.hid (by simp)⟩
  case round =>
    obtain ⟨k, p, rfl, rfl, hkp, hp, hr⟩ := hrel
    by_cases hlt : p < s.size
    · obtain ⟨b, hbt⟩ : ∃ b : Int, ∀ h : p < s.size, ((s[p]'h).toNat : Int) = b := ⟨((s[p]'hlt).toNat : Int), fun _ => rfl⟩
      have hb0 : 0 ≤ b := by have := hbt hlt; omega
      have hb1 : b ≤ 255 := by have := hbt hlt; have := (s[p]'hlt).toNat_lt; omega
      have HBT := Lib.hid hbt
      by_cases hlow : b < 128
      · rcases (show b < 48 ∨ (48 ≤ b ∧ b ≤ 57) ∨ (58 ≤ b ∧ b ≤ 64) ∨ (65 ≤ b ∧ b ≤ 90) ∨ (91 ≤ b ∧ b ≤ 96) ∨ (97 ≤ b ∧ b ≤ 122) ∨ 123 ≤ b from by omega) with ha | ⟨ha, hb⟩ | ⟨ha, hb⟩ | ⟨ha, hb⟩ | ⟨ha, hb⟩ | ⟨ha, hb⟩ | ha
        · by_cases h0 : p = 0
          · have e0 : ((p : Int) == 0) = true := by simp [h0]
            have HP0 := Lib.hid h0
            have h00 : p ≤ 0 := by omega
            clear h0
            rcases rstep_low hlt HBT.out hlow hr.out with ⟨hg, _⟩ | ⟨_, hbad⟩
            · exfalso
              simp [letterR, digitR] at hg
              omega
            · have HBAD := Lib.hid hbad
              clear hbad
              go_wp2_with (go_at_call 47; refine (letter_is _ false _ (by simp [letterI] <;> omega)).mono ?_; rintro e w1 ⟨rfl, rfl⟩)
              go_ret
              exact ⟨ret_bool HBAD.out.symm, rfl⟩
          · have e0 : ((p : Int) == 0) = false := by simp; omega
            have h00 : 1 ≤ p := by omega
            clear h0
            rcases rstep_low hlt HBT.out hlow hr.out with ⟨hg, _⟩ | ⟨_, hbad⟩
            · exfalso
              simp [letterR, digitR] at hg
              omega
            · have HBAD := Lib.hid hbad
              clear hbad
              go_wp2_with (go_at_call 47; refine (letter_is _ false _ (by simp [letterI] <;> omega)).mono ?_; rintro e w1 ⟨rfl, rfl⟩)
              go_ret
              exact ⟨ret_bool HBAD.out.symm, rfl⟩
        · by_cases h0 : p = 0
          · have e0 : ((p : Int) == 0) = true := by simp [h0]
            have HP0 := Lib.hid h0
            have h00 : p ≤ 0 := by omega
            clear h0
            rcases rstep_low hlt HBT.out hlow hr.out with ⟨hg, _⟩ | ⟨_, hbad⟩
            · exfalso
              have := HP0.out; simp [letterR, digitR] at hg
              omega
            · have HBAD := Lib.hid hbad
              clear hbad
              go_wp2_with (go_at_call 47; refine (letter_is _ false _ (by simp [letterI] <;> omega)).mono ?_; rintro e w1 ⟨rfl, rfl⟩)
              go_ret
              exact ⟨ret_bool HBAD.out.symm, rfl⟩
          · have e0 : ((p : Int) == 0) = false := by simp; omega
            have h00 : 1 ≤ p := by omega
            clear h0
            rcases rstep_low hlt HBT.out hlow hr.out with ⟨_, hr2⟩ | ⟨hg, _⟩
            · have HR2 := Lib.hid hr2
              clear hr2
              go_wp2_with (go_at_call 47; refine (letter_is _ false _ (by simp [letterI] <;> omega)).mono ?_; rintro e w1 ⟨rfl, rfl⟩)
              go_round
              case rel => exact ⟨k + 1, p + 1, by go_num, by go_num, by omega, by omega, HR2⟩
              case measure => simp [intOf]; omega
            · exfalso
              simp [letterR, digitR] at hg
              omega
        · by_cases h0 : p = 0
          · have e0 : ((p : Int) == 0) = true := by simp [h0]
            have HP0 := Lib.hid h0
            have h00 : p ≤ 0 := by omega
            clear h0
            rcases rstep_low hlt HBT.out hlow hr.out with ⟨hg, _⟩ | ⟨_, hbad⟩
            · exfalso
              simp [letterR, digitR] at hg
              omega
            · have HBAD := Lib.hid hbad
              clear hbad
              go_wp2_with (go_at_call 47; refine (letter_is _ false _ (by simp [letterI] <;> omega)).mono ?_; rintro e w1 ⟨rfl, rfl⟩)
              go_ret
              exact ⟨ret_bool HBAD.out.symm, rfl⟩
          · have e0 : ((p : Int) == 0) = false := by simp; omega
            have h00 : 1 ≤ p := by omega
            clear h0
            rcases rstep_low hlt HBT.out hlow hr.out with ⟨hg, _⟩ | ⟨_, hbad⟩
            · exfalso
              simp [letterR, digitR] at hg
              omega
            · have HBAD := Lib.hid hbad
              clear hbad
              go_wp2_with (go_at_call 47; refine (letter_is _ false _ (by simp [letterI] <;> omega)).mono ?_; rintro e w1 ⟨rfl, rfl⟩)
              go_ret
              exact ⟨ret_bool HBAD.out.symm, rfl⟩
        · rcases rstep_low hlt HBT.out hlow hr.out with ⟨_, hr2⟩ | ⟨hg, _⟩
          · have HR2 := Lib.hid hr2
            clear hr2
            go_wp2_with (go_at_call 47; refine (letter_is _ true _ (by simp [letterI] <;> omega)).mono ?_; rintro e w1 ⟨rfl, rfl⟩)
            go_round
            case rel => exact ⟨k + 1, p + 1, by go_num, by go_num, by omega, by omega, HR2⟩
            case measure => simp [intOf]; omega
          · exfalso
            simp [letterR, digitR] at hg
            omega
        · by_cases h0 : p = 0
          · have e0 : ((p : Int) == 0) = true := by simp [h0]
            have HP0 := Lib.hid h0
            have h00 : p ≤ 0 := by omega
            clear h0
            rcases rstep_low hlt HBT.out hlow hr.out with ⟨hg, _⟩ | ⟨_, hbad⟩
            · exfalso
              simp [letterR, digitR] at hg
              omega
            · have HBAD := Lib.hid hbad
              clear hbad
              go_wp2_with (go_at_call 47; refine (letter_is _ false _ (by simp [letterI] <;> omega)).mono ?_; rintro e w1 ⟨rfl, rfl⟩)
              go_ret
              exact ⟨ret_bool HBAD.out.symm, rfl⟩
          · have e0 : ((p : Int) == 0) = false := by simp; omega
            have h00 : 1 ≤ p := by omega
            clear h0
            rcases rstep_low hlt HBT.out hlow hr.out with ⟨hg, _⟩ | ⟨_, hbad⟩
            · exfalso
              simp [letterR, digitR] at hg
              omega
            · have HBAD := Lib.hid hbad
              clear hbad
              go_wp2_with (go_at_call 47; refine (letter_is _ false _ (by simp [letterI] <;> omega)).mono ?_; rintro e w1 ⟨rfl, rfl⟩)
              go_ret
              exact ⟨ret_bool HBAD.out.symm, rfl⟩
        · rcases rstep_low hlt HBT.out hlow hr.out with ⟨_, hr2⟩ | ⟨hg, _⟩
          · have HR2 := Lib.hid hr2
            clear hr2
            go_wp2_with (go_at_call 47; refine (letter_is _ true _ (by simp [letterI] <;> omega)).mono ?_; rintro e w1 ⟨rfl, rfl⟩)
            go_round
            case rel => exact ⟨k + 1, p + 1, by go_num, by go_num, by omega, by omega, HR2⟩
            case measure => simp [intOf]; omega
          · exfalso
            simp [letterR, digitR] at hg
            omega
        · by_cases h0 : p = 0
          · have e0 : ((p : Int) == 0) = true := by simp [h0]
            have HP0 := Lib.hid h0
            have h00 : p ≤ 0 := by omega
            clear h0
            rcases rstep_low hlt HBT.out hlow hr.out with ⟨hg, _⟩ | ⟨_, hbad⟩
            · exfalso
              simp [letterR, digitR] at hg
              omega
            · have HBAD := Lib.hid hbad
              clear hbad
              go_wp2_with (go_at_call 47; refine (letter_is _ false _ (by simp [letterI] <;> omega)).mono ?_; rintro e w1 ⟨rfl, rfl⟩)
              go_ret
              exact ⟨ret_bool HBAD.out.symm, rfl⟩
          · have e0 : ((p : Int) == 0) = false := by simp; omega
            have h00 : 1 ≤ p := by omega
            clear h0
            rcases rstep_low hlt HBT.out hlow hr.out with ⟨hg, _⟩ | ⟨_, hbad⟩
            · exfalso
              simp [letterR, digitR] at hg
              omega
            · have HBAD := Lib.hid hbad
              clear hbad
              go_wp2_with (go_at_call 47; refine (letter_is _ false _ (by simp [letterI] <;> omega)).mono ?_; rintro e w1 ⟨rfl, rfl⟩)
              go_ret
              exact ⟨ret_bool HBAD.out.symm, rfl⟩
      · have hlow' : 128 ≤ b := by omega
        have hlowd : (128 : Int) ≤ b := hlow'
        by_cases hlt2 : p + 1 < s.size
        · obtain ⟨c, hct⟩ : ∃ c : Int, ∀ h : p + 1 < s.size, ((s[p + 1]'h).toNat : Int) = c := ⟨((s[p + 1]'hlt2).toNat : Int), fun _ => rfl⟩
          have hc0 : 0 ≤ c := by have := hct hlt2; omega
          have hc1 : c ≤ 255 := by have := hct hlt2; have := (s[p + 1]'hlt2).toNat_lt; omega
          have HCT := Lib.hid hct
          rcases (show (b = 206 ∧ c < 177) ∨ (b = 206 ∧ 177 ≤ c ∧ c ≤ 191) ∨ (b = 206 ∧ 192 ≤ c) ∨ (b = 207 ∧ c < 128) ∨ (b = 207 ∧ 128 ≤ c ∧ c ≤ 137) ∨ (b = 207 ∧ 138 ≤ c) ∨ (b ≠ 206 ∧ b ≠ 207) from by omega) with ⟨rfl, ha⟩ | ⟨rfl, ha, hb⟩ | ⟨rfl, ha⟩ | ⟨rfl, ha⟩ | ⟨rfl, ha, hb⟩ | ⟨rfl, ha⟩ | ⟨ha, hb⟩
          · by_cases h0 : p = 0
            · have e0 : ((p : Int) == 0) = true := by simp [h0]
              have HP0 := Lib.hid h0
              have h00 : p ≤ 0 := by omega
              clear h0
              rcases rstep_high hlt HBT.out (by omega) hlt2 HCT.out hr.out with ⟨hg, _⟩ | ⟨_, hbad⟩
              · exfalso
                simp [greek] at hg
                omega
              · have HBAD := Lib.hid hbad
                clear hbad
                go_wp2_with (go_at_call 47; refine (letter_is _ false _ (by simp [letterI] <;> omega)).mono ?_; rintro e w1 ⟨rfl, rfl⟩)
                go_ret
                exact ⟨ret_bool HBAD.out.symm, rfl⟩
            · have e0 : ((p : Int) == 0) = false := by simp; omega
              have h00 : 1 ≤ p := by omega
              clear h0
              rcases rstep_high hlt HBT.out (by omega) hlt2 HCT.out hr.out with ⟨hg, _⟩ | ⟨_, hbad⟩
              · exfalso
                simp [greek] at hg
                omega
              · have HBAD := Lib.hid hbad
                clear hbad
                go_wp2_with (go_at_call 47; refine (letter_is _ false _ (by simp [letterI] <;> omega)).mono ?_; rintro e w1 ⟨rfl, rfl⟩)
                go_ret
                exact ⟨ret_bool HBAD.out.symm, rfl⟩
          · rcases rstep_high hlt HBT.out (by omega) hlt2 HCT.out hr.out with ⟨_, hr2⟩ | ⟨hg, _⟩
            · have HR2 := Lib.hid hr2
              clear hr2
              go_wp2_with (go_at_call 47; refine (letter_is _ true _ (by simp [letterI] <;> omega)).mono ?_; rintro e w1 ⟨rfl, rfl⟩)
              go_round
              case rel => exact ⟨k + 1, p + 2, by go_num, by go_num, by omega, by omega, HR2⟩
              case measure => simp [intOf]; omega
            · exfalso
              simp [greek] at hg
              omega
          · by_cases h0 : p = 0
            · have e0 : ((p : Int) == 0) = true := by simp [h0]
              have HP0 := Lib.hid h0
              have h00 : p ≤ 0 := by omega
              clear h0
              rcases rstep_high hlt HBT.out (by omega) hlt2 HCT.out hr.out with ⟨hg, _⟩ | ⟨_, hbad⟩
              · exfalso
                simp [greek] at hg
                omega
              · have HBAD := Lib.hid hbad
                clear hbad
                go_wp2_with (go_at_call 47; refine (letter_is _ false _ (by simp [letterI] <;> omega)).mono ?_; rintro e w1 ⟨rfl, rfl⟩)
                go_ret
                exact ⟨ret_bool HBAD.out.symm, rfl⟩
            · have e0 : ((p : Int) == 0) = false := by simp; omega
              have h00 : 1 ≤ p := by omega
              clear h0
              rcases rstep_high hlt HBT.out (by omega) hlt2 HCT.out hr.out with ⟨hg, _⟩ | ⟨_, hbad⟩
              · exfalso
                simp [greek] at hg
                omega
              · have HBAD := Lib.hid hbad
                clear hbad
                go_wp2_with (go_at_call 47; refine (letter_is _ false _ (by simp [letterI] <;> omega)).mono ?_; rintro e w1 ⟨rfl, rfl⟩)
                go_ret
                exact ⟨ret_bool HBAD.out.symm, rfl⟩
          · by_cases h0 : p = 0
            · have e0 : ((p : Int) == 0) = true := by simp [h0]
              have HP0 := Lib.hid h0
              have h00 : p ≤ 0 := by omega
              clear h0
              rcases rstep_high hlt HBT.out (by omega) hlt2 HCT.out hr.out with ⟨hg, _⟩ | ⟨_, hbad⟩
              · exfalso
                simp [greek] at hg
                omega
              · have HBAD := Lib.hid hbad
                clear hbad
                go_wp2_with (go_at_call 47; refine (letter_is _ false _ (by simp [letterI] <;> omega)).mono ?_; rintro e w1 ⟨rfl, rfl⟩)
                go_ret
                exact ⟨ret_bool HBAD.out.symm, rfl⟩
            · have e0 : ((p : Int) == 0) = false := by simp; omega
              have h00 : 1 ≤ p := by omega
              clear h0
              rcases rstep_high hlt HBT.out (by omega) hlt2 HCT.out hr.out with ⟨hg, _⟩ | ⟨_, hbad⟩
              · exfalso
                simp [greek] at hg
                omega
              · have HBAD := Lib.hid hbad
                clear hbad
                go_wp2_with (go_at_call 47; refine (letter_is _ false _ (by simp [letterI] <;> omega)).mono ?_; rintro e w1 ⟨rfl, rfl⟩)
                go_ret
                exact ⟨ret_bool HBAD.out.symm, rfl⟩
          · rcases rstep_high hlt HBT.out (by omega) hlt2 HCT.out hr.out with ⟨_, hr2⟩ | ⟨hg, _⟩
            · have HR2 := Lib.hid hr2
              clear hr2
              go_wp2_with (go_at_call 47; refine (letter_is _ true _ (by simp [letterI] <;> omega)).mono ?_; rintro e w1 ⟨rfl, rfl⟩)
              go_round
              case rel => exact ⟨k + 1, p + 2, by go_num, by go_num, by omega, by omega, HR2⟩
              case measure => simp [intOf]; omega
            · exfalso
              simp [greek] at hg
              omega
          · by_cases h0 : p = 0
            · have e0 : ((p : Int) == 0) = true := by simp [h0]
              have HP0 := Lib.hid h0
              have h00 : p ≤ 0 := by omega
              clear h0
              rcases rstep_high hlt HBT.out (by omega) hlt2 HCT.out hr.out with ⟨hg, _⟩ | ⟨_, hbad⟩
              · exfalso
                simp [greek] at hg
                omega
              · have HBAD := Lib.hid hbad
                clear hbad
                go_wp2_with (go_at_call 47; refine (letter_is _ false _ (by simp [letterI] <;> omega)).mono ?_; rintro e w1 ⟨rfl, rfl⟩)
                go_ret
                exact ⟨ret_bool HBAD.out.symm, rfl⟩
            · have e0 : ((p : Int) == 0) = false := by simp; omega
              have h00 : 1 ≤ p := by omega
              clear h0
              rcases rstep_high hlt HBT.out (by omega) hlt2 HCT.out hr.out with ⟨hg, _⟩ | ⟨_, hbad⟩
              · exfalso
                simp [greek] at hg
                omega
              · have HBAD := Lib.hid hbad
                clear hbad
                go_wp2_with (go_at_call 47; refine (letter_is _ false _ (by simp [letterI] <;> omega)).mono ?_; rintro e w1 ⟨rfl, rfl⟩)
                go_ret
                exact ⟨ret_bool HBAD.out.symm, rfl⟩
          · have f6 : (b == 206) = false := beq_eq_false_iff_ne.2 ha
            have f7 : (b == 207) = false := beq_eq_false_iff_ne.2 hb
            by_cases h0 : p = 0
            · have e0 : ((p : Int) == 0) = true := by simp [h0]
              have HP0 := Lib.hid h0
              have h00 : p ≤ 0 := by omega
              clear h0
              rcases rstep_high hlt HBT.out (by omega) hlt2 HCT.out hr.out with ⟨hg, _⟩ | ⟨_, hbad⟩
              · exfalso
                simp [greek] at hg
                omega
              · have HBAD := Lib.hid hbad
                clear hbad
                go_wp2_with (go_at_call 47; refine (letter_is _ false _ (by simp [letterI] <;> omega)).mono ?_; rintro e w1 ⟨rfl, rfl⟩)
                go_ret
                exact ⟨ret_bool HBAD.out.symm, rfl⟩
            · have e0 : ((p : Int) == 0) = false := by simp; omega
              have h00 : 1 ≤ p := by omega
              clear h0
              rcases rstep_high hlt HBT.out (by omega) hlt2 HCT.out hr.out with ⟨hg, _⟩ | ⟨_, hbad⟩
              · exfalso
                simp [greek] at hg
                omega
              · have HBAD := Lib.hid hbad
                clear hbad
                go_wp2_with (go_at_call 47; refine (letter_is _ false _ (by simp [letterI] <;> omega)).mono ?_; rintro e w1 ⟨rfl, rfl⟩)
                go_ret
                exact ⟨ret_bool HBAD.out.symm, rfl⟩
        · have hbad := rstep_last hlt HBT.out (by omega) hlt2 hr.out
          have HBAD := Lib.hid hbad
          clear hbad
          go_wp2
          go_ret
          exact ⟨ret_bool HBAD.out.symm, rfl⟩
    · by_cases h1 : 1 ≤ k
      · go_wp2
        go_ret
        exact ⟨ret_bool (by rw [rstep_end (by omega) hr.out, Bool.eq_iff_iff]; simp; omega), rfl⟩
      · go_wp2
        go_ret
        exact ⟨ret_bool (by rw [rstep_end (by omega) hr.out, Bool.eq_iff_iff]; simp; omega), rfl⟩
end Go.Proofs.YtfammikhejjjcaaDoor.RefName
