/- The reference's number and sign. No condition. -/
import Derived.Test.YtfammikhejjjcaaDoorLex5
import Derived.Deep.QuietTactic
import Derived.BigQuiet
namespace Go.Proofs.YtfammikhejjjcaaDoor.Lex
set_option linter.unusedVariables false
set_option linter.unusedSimpArgs false
open Go Go.Lib Go.RowKit Go.Proofs.YtfammikhejjjcaaDoorW.PrintWords Go.Proofs.YtfammikhejjjcaaDoor.Aux Go.Proofs.YtfammikhejjjcaaDoor.LatSpec Go.Proofs.YtfammikhejjjcaaDoor.LexSpec Go.Proofs.YtfammikhejjjcaaDoor.Kinds
theorem valD_take {l : L} {i : Nat} {b : UInt8} (h : l[i]? = some b) : valD (l.take (i + 1)) = valD (l.take i) * 10 + (b.toNat - 48) := by
  rw [List.take_add_one, h]
  simp [valD, List.foldl_append]
theorem valD_mono (l : L) (i : Nat) : valD (l.take i) ≤ valD l := by
  have h1 : valD l = valF (valD (l.take i)) (l.drop i) := by
    have : valD l = valD (l.take i ++ l.drop i) := by rw [List.take_append_drop]
    rw [this, valD, List.foldl_append]
    rfl
  rw [h1]
  exact valF_ge _ _
theorem ret_num {n : Int} {a b : Bool} (h : a = b) : Ending.returned (.tuple #[.int .i64 n, .bool a]) = .returned (.tuple #[.int .i64 n, .bool b]) := by rw [h]
set_option maxRecDepth 100000 in
set_option maxHeartbeats 1600000 in
theorem number_calls (s : ByteArray) (ok : Bool) (w : World) (hs0 : 0 < s.size) (hs : s.size ≤ 281474976710656) (hd : ∀ b ∈ s.data.toList, digitR b.toNat = true) (hok : numOK s.data.toList = ok) :
    Calls Tryd.prog 37 #[.string s] w fun e w' => (∃ n : Int, e = .returned (.tuple #[.int .i64 n, .bool ok]) ∧ (ok = true → n = valD s.data.toList)) ∧ Below w.heap.size w w' := by
  have hl : s.data.toList.length = s.size := by simp
  have HL := Lib.hid hl
  have HD := Lib.hid hd
  have HOK := Lib.hid hok
  obtain ⟨c0, hc0⟩ : ∃ c : Int, ∀ h : 0 < s.size, ((s[0]'h).toNat : Int) = c := ⟨((s[0]'hs0).toNat : Int), fun _ => rfl⟩
  have HC0 := Lib.hid hc0
  have hc00 : 0 ≤ c0 := by have := hc0 hs0; omega
  have hc01 : c0 ≤ 255 := by have := hc0 hs0; have := (s[0]'hs0).toNat_lt; omega
  have HH := Lib.hid (show s.data.toList.head? = some (s[0]'hs0) by
    rw [List.head?_eq_getElem?, List.getElem?_eq_getElem (by rw [hl]; exact hs0)]
    rfl)
  clear hl hd hok
  go_enter Tryd.func37, Tryd.ntmps37
  go_wp2_with fail
  go_loopg [4, 5] (s.size) (fun g n i wr => ∃ k m : Nat, i = .int .i64 k ∧ k ≤ s.size ∧ g = s.size - k ∧ n = .int .i64 m ∧ m ≤ 9223372036854775807 ∧ w = wr ∧ Hid (valD (s.data.toList.take k) = m))
  case atStart => exact ⟨0, 0, rfl, Nat.zero_le _, rfl, rfl, by omega, rfl, Lib.hid (by simp [valD])⟩
  case round =>
    obtain ⟨k, m, rfl, hk, rfl, rfl, hm, rfl, hv⟩ := hrel
    by_cases hlt : k < s.size
    · obtain ⟨c, hc⟩ : ∃ c : Int, ∀ h : k < s.size, ((s[k]'h).toNat : Int) = c := ⟨((s[k]'hlt).toNat : Int), fun _ => rfl⟩
      have hget : s.data.toList[k]? = some (s[k]'hlt) := by
        rw [List.getElem?_eq_getElem (by rw [HL.out]; exact hlt)]
        rfl
      have hdig := HD.out _ (List.mem_of_getElem? hget)
      simp only [digitR, Bool.and_eq_true, decide_eq_true_eq] at hdig
      have hc48 : 48 ≤ c := by have := hc hlt; omega
      have hc57 : c ≤ 57 := by have := hc hlt; omega
      have HN := Lib.hid (show ((valD (s.data.toList.take (k + 1)) : Nat) : Int) = 10 * m + (c - 48) by
        rw [valD_take hget, hv.out]
        have := hc hlt
        omega)
      clear hget hdig
      by_cases hbig : 9223372036854775807 < 10 * (m : Int) + (c - 48)
      · have HRES := Lib.hid (show ok = false by
          rw [← HOK.out, numOK, decide_eq_false]
          · simp
          · have h1 := HN.out
            have h2 := valD_mono s.data.toList (k + 1)
            omega)
        by_cases h1 : 922337203685477580 < m
        · go_wp2
          go_ret2
          exact ⟨⟨_, ret_num HRES.out.symm, fun h => by rw [HRES.out] at h; cases h⟩, Below.refl _ _⟩
        · have hm2 : m = 922337203685477580 := by omega
          have e1 : ((m : Int) == 922337203685477580) = true := by rw [hm2]; decide
          clear hm2
          go_wp2
          go_ret2
          exact ⟨⟨_, ret_num HRES.out.symm, fun h => by rw [HRES.out] at h; cases h⟩, Below.refl _ _⟩
      · have hnn : 0 ≤ 10 * (m : Int) + (c - 48) := by omega
        obtain ⟨q, hq⟩ := Int.eq_ofNat_of_zero_le hnn
        have HV := Lib.hid (show valD (s.data.toList.take (k + 1)) = q by have := HN.out; omega)
        have h1 : ¬ (922337203685477580 < (m : Int)) := by omega
        by_cases hm2 : m = 922337203685477580
        · have e1 : ((m : Int) == 922337203685477580) = true := by rw [hm2]; decide
          have h7 : ¬ (7 < c - 48) := by omega
          have HM := Lib.hid hm2
          clear hm2
          go_wp2
          go_roundg (s.size - (k + 1))
          case measure => omega
          case rel => exact ⟨k + 1, q, by go_num, by omega, rfl, by rw [← hq], by omega, rfl, HV⟩
        · have e1 : ((m : Int) == 922337203685477580) = false := by rw [beq_eq_false_iff_ne]; omega
          clear hm2
          go_wp2
          go_roundg (s.size - (k + 1))
          case measure => omega
          case rel => exact ⟨k + 1, q, by go_num, by omega, rfl, by rw [← hq], by omega, rfl, HV⟩
    · obtain rfl : k = s.size := by omega
      have HV := Lib.hid (show valD s.data.toList = m by
        rw [← hv.out, List.take_of_length_le]
        rw [HL.out]
        exact Nat.le_refl _)
      by_cases h1 : s.size = 1
      · have e1 : ((s.size : Int) == 1) = true := by rw [h1]; rfl
        have HRES := Lib.hid (show ok = true by
          rw [← HOK.out, numOK, HV.out, HL.out, h1]
          simp
          omega)
        clear h1
        go_wp2_with fail
        go_quiet (fail)
        go_wp2
        go_ret2
        exact ⟨⟨_, ret_num HRES.out.symm, fun _ => by rw [HV.out]⟩, pw_below_drewN (Below.refl _ _) _⟩
      · have e1 : ((s.size : Int) == 1) = false := by rw [beq_eq_false_iff_ne]; omega
        by_cases h48 : c0 = 48
        · have e2 : (c0 != 48) = false := by rw [h48]; rfl
          have HRES := Lib.hid (show ok = false by
            have hq := HC0.out hs0
            have h8 : s[0]'hs0 = 48 := by rw [← UInt8.toNat_inj]; show _ = 48; omega
            rw [← HOK.out, numOK, HL.out, HH.out, h8]
            simp [h1])
          clear h1
          go_wp2_with fail
          go_quiet (fail)
          go_wp2
          go_ret2
          exact ⟨⟨_, ret_num HRES.out.symm, fun h => by rw [HRES.out] at h; cases h⟩, pw_below_drewN (Below.refl _ _) _⟩
        · have e2 : (c0 != 48) = true := by rw [bne_iff_ne]; exact h48
          have HRES := Lib.hid (show ok = true by
            have hq := HC0.out hs0
            have h8 : s[0]'hs0 ≠ 48 := by
              intro e
              rw [e] at hq
              exact h48 (by rw [← hq]; rfl)
            rw [← HOK.out, numOK, HV.out, HH.out]
            simp [h8]
            omega)
          clear h1
          go_wp2_with fail
          go_quiet (fail)
          go_wp2
          go_ret2
          exact ⟨⟨_, ret_num HRES.out.symm, fun _ => by rw [HV.out]⟩, pw_below_drewN (Below.refl _ _) _⟩
def signN (l : L) : Nat := if sign2 l then 2 else if sign1 l then 1 else 0
theorem slice_p2 (s : ByteArray) (p : Nat) (h : p + 2 ≤ s.size) (w : World) : (Instr.slice 9 (.string s) (some (.int .i64 (p : Int))) (some (.int .i64 ((p : Int) + 2))) none).run Tryd.prog w = .ok (.string (s.extract p (p + 2))) w := slice_pk s p 2 h w
def sgB : ByteArray := ⟨#[40, 41, 91, 93, 123, 125, 60, 62, 44, 59, 58, 64, 33, 61, 43, 45, 42, 47, 37]⟩
theorem sgB_size : sgB.size = 19 := rfl
theorem sgB_signs : sgB.data.toList = signs := rfl
theorem sign1_of {l : L} {b : UInt8} {t : L} {c : Int} (h : l = b :: t) (hb : (b.toNat : Int) = c) {k : Nat} (hk : k < sgB.size) (e : ((sgB[k]'hk).toNat : Int) = c) : sign1 l = true := by
  subst h
  rw [sign1, decide_eq_true_eq, ← sgB_signs]
  have e1 : b = sgB[k]'hk := by rw [← UInt8.toNat_inj]; omega
  rw [e1]
  exact Array.getElem_mem_toList (xs := sgB.data) hk
theorem sign1_not {l : L} {b : UInt8} {t : L} {c : Int} (h : l = b :: t) (hb : (b.toNat : Int) = c) (e : ∀ k (h : k < sgB.size), ((sgB[k]'h).toNat : Int) ≠ c) : sign1 l = false := by
  subst h
  rw [sign1, decide_eq_false_iff_not, ← sgB_signs]
  intro hm
  obtain ⟨k, hk, e1⟩ := List.getElem_of_mem hm
  have hk2 : k < sgB.size := by simpa using hk
  refine e k hk2 ?_
  have e2 : sgB[k]'hk2 = b := e1
  rw [e2]
  exact hb
set_option maxRecDepth 100000 in
set_option maxHeartbeats 1600000 in
theorem sign_calls (s : ByteArray) (p : Nat) (w : World) (hp : p < s.size) (hs : s.size ≤ 281474976710656) :
    Calls Tryd.prog 38 #[.string s, .int .i64 p] w fun e w' => e = .returned (.int .i64 (signN (s.data.toList.drop p))) ∧ Below w.heap.size w w' := by
  obtain ⟨c, hc⟩ : ∃ c : Int, ∀ h : p < s.size, ((s[p]'h).toNat : Int) = c := ⟨((s[p]'hp).toNat : Int), fun _ => rfl⟩
  have hc0 : 0 ≤ c := by have := hc hp; omega
  have hc1 : c ≤ 255 := by have := hc hp; have := (s[p]'hp).toNat_lt; omega
  obtain ⟨b, t, hbt, hbc⟩ := drop_byte hp hc
  obtain ⟨r, hr⟩ : ∃ r, signN (s.data.toList.drop p) = r := ⟨_, rfl⟩
  rw [hr]
  have HR := Lib.hid hr
  have hlen : (s.data.toList.drop p).length = s.size - p := by rw [List.length_drop]; simp
  have hlen2 : (s.data.toList.drop p).length = s.size - p := hlen
  by_cases hp2 : p + 2 ≤ s.size
  · obtain ⟨tw, htw⟩ : ∃ tw, tw = s.extract p (p + 2) := ⟨_, rfl⟩
    have hsl := fun wx => slice_p2 s p hp2 wx
    rw [← htw] at hsl
    obtain ⟨a1, b1, t1, hab⟩ : ∃ a1 b1 t1, s.data.toList.drop p = a1 :: b1 :: t1 := by
      match hd : s.data.toList.drop p with
      | [] => rw [hd] at hlen; simp at hlen; omega
      | [_] => rw [hd] at hlen; simp at hlen; omega
      | a1 :: b1 :: t1 => exact ⟨a1, b1, t1, rfl⟩
    have hte : tw.toList = [a1, b1] := by rw [ByteArray.toList_eq, htw, extM, hab, show p + 2 - p = 2 by omega]; rfl
    have hs2 : sign2 (s.data.toList.drop p) = ((tw.toList == [61, 61]) || (tw.toList == [61, 62]) || (tw.toList == [45, 62]) || (tw.toList == [58, 61])) := by
      rw [hab, hte, sign2, Bool.eq_iff_iff]
      simp [or_assoc]
    obtain ⟨q1, hq1⟩ : ∃ q, (tw.toList == [61, 61]) = q := ⟨_, rfl⟩
    obtain ⟨q2, hq2⟩ : ∃ q, (tw.toList == [61, 62]) = q := ⟨_, rfl⟩
    obtain ⟨q3, hq3⟩ : ∃ q, (tw.toList == [45, 62]) = q := ⟨_, rfl⟩
    obtain ⟨q4, hq4⟩ : ∃ q, (tw.toList == [58, 61]) = q := ⟨_, rfl⟩
    rw [hq1, hq2, hq3, hq4] at hs2
    have HS2 := Lib.hid hs2
    clear hs2 hte hab htw
    cases hq : (q1 || q2 || q3 || q4) with
    | true =>
      have HRES := Lib.hid (show r = 2 by rw [← HR.out, signN, if_pos (by rw [HS2.out, hq])])
      go_enter Tryd.func38, Tryd.ntmps38
      cases q1 with
      | true =>
        go_wp2
        go_ret
        exact ⟨ret_int (by rw [HRES.out]; rfl), Below.refl _ _⟩
      | false => cases q2 with
        | true =>
          go_wp2
          go_ret
          exact ⟨ret_int (by rw [HRES.out]; rfl), Below.refl _ _⟩
        | false => cases q3 with
          | true =>
            go_wp2
            go_ret
            exact ⟨ret_int (by rw [HRES.out]; rfl), Below.refl _ _⟩
          | false => cases q4 with
            | true =>
              go_wp2
              go_ret
              exact ⟨ret_int (by rw [HRES.out]; rfl), Below.refl _ _⟩
            | false => cases hq
    | false =>
      obtain ⟨rfl, rfl, rfl, rfl⟩ : q1 = false ∧ q2 = false ∧ q3 = false ∧ q4 = false := by simpa [and_assoc] using hq
      have HRES := Lib.hid (show r = if sign1 (s.data.toList.drop p) then 1 else 0 by rw [← HR.out, signN, if_neg (by rw [HS2.out]; simp)])
      have HB := Lib.hid (show ∀ k (h : k < sgB.size), ((sgB[k]'h).toNat : Int) = c → sign1 (s.data.toList.drop p) = true from fun k h e => sign1_of hbt hbc h e)
      have HB2 := Lib.hid (show (∀ k (h : k < sgB.size), ((sgB[k]'h).toNat : Int) ≠ c) → sign1 (s.data.toList.drop p) = false from fun h => sign1_not hbt hbc h)
      clear hq hr hlen hlen2 hbt hbc
      go_enter Tryd.func38, Tryd.ntmps38
      go_wp2_with fail
      go_loopg [7] (19) (fun g i wr => ∃ k : Nat, i = .int .i64 k ∧ k ≤ 19 ∧ g = 19 - k ∧ Hid (Below w.heap.size w wr) ∧ Hid (∀ j (h : j < sgB.size), j < k → ((sgB[j]'h).toNat : Int) ≠ c))
      case atStart => exact ⟨0, rfl, Nat.zero_le _, rfl, Lib.hid (Below.refl _ _), Lib.hid (fun j _ hj => absurd hj (by omega))⟩
      case round =>
        obtain ⟨k, rfl, hk, rfl, hbr, hall⟩ := hrel
        by_cases hlt : k < 19
        · have hlt2 : k < sgB.size := hlt
          obtain ⟨d, hd⟩ : ∃ d : Int, ∀ h : k < (⟨#[40, 41, 91, 93, 123, 125, 60, 62, 44, 59, 58, 64, 33, 61, 43, 45, 42, 47, 37]⟩ : ByteArray).size, ((((⟨#[40, 41, 91, 93, 123, 125, 60, 62, 44, 59, 58, 64, 33, 61, 43, 45, 42, 47, 37]⟩ : ByteArray)[k]'h).toNat : Nat) : Int) = d := ⟨((sgB[k]'hlt2).toNat : Int), fun _ => rfl⟩
          have HDD := Lib.hid (show ((sgB[k]'hlt2).toNat : Int) = d from hd hlt2)
          by_cases he : d = c
          · have eb : (d == c) = true := by rw [he]; simp
            have HRN := Lib.hid (show r = 1 by rw [HRES.out, HB.out k hlt2 (HDD.out.trans he)]; rfl)
            clear he
            go_wp2_with fail
            go_quiet (fail)
            go_wp2
            go_ret
            exact ⟨ret_int (by rw [HRN.out]; rfl), pw_below_drewN hbr.out _⟩
          · have eb : (d == c) = false := beq_eq_false_iff_ne.2 he
            have HALL := Lib.hid (show ∀ j (h : j < sgB.size), j < k + 1 → ((sgB[j]'h).toNat : Int) ≠ c from fun j h hj => by
              rcases Nat.lt_or_ge j k with h1 | h1
              · exact hall.out j h h1
              · obtain rfl : j = k := by omega
                rw [HDD.out]
                exact he)
            clear he
            go_wp2_with fail
            go_quiet (fail)
            go_wp2
            go_roundg (19 - (k + 1))
            case measure => omega
            case rel => exact ⟨k + 1, by go_num, by omega, rfl, Lib.hid (pw_below_drewN hbr.out _), HALL⟩
        · obtain rfl : k = 19 := by omega
          have HRN := Lib.hid (show r = 0 by rw [HRES.out, HB2.out (fun j h => hall.out j h h)]; rfl)
          go_wp2
          go_ret
          exact ⟨ret_int (by rw [HRN.out]; rfl), hbr.out⟩
  · have HRES := Lib.hid (show r = if sign1 (s.data.toList.drop p) then 1 else 0 by
      rw [← HR.out, signN, if_neg]
      intro h
      have := sign2_len h
      omega)
    have HB := Lib.hid (show ∀ k (h : k < sgB.size), ((sgB[k]'h).toNat : Int) = c → sign1 (s.data.toList.drop p) = true from fun k h e => sign1_of hbt hbc h e)
    have HB2 := Lib.hid (show (∀ k (h : k < sgB.size), ((sgB[k]'h).toNat : Int) ≠ c) → sign1 (s.data.toList.drop p) = false from fun h => sign1_not hbt hbc h)
    clear hr hlen hlen2 hbt hbc
    go_enter Tryd.func38, Tryd.ntmps38
    go_wp2_with fail
    go_loopg [7] (19) (fun g i wr => ∃ k : Nat, i = .int .i64 k ∧ k ≤ 19 ∧ g = 19 - k ∧ Hid (Below w.heap.size w wr) ∧ Hid (∀ j (h : j < sgB.size), j < k → ((sgB[j]'h).toNat : Int) ≠ c))
    case atStart => exact ⟨0, rfl, Nat.zero_le _, rfl, Lib.hid (Below.refl _ _), Lib.hid (fun j _ hj => absurd hj (by omega))⟩
    case round =>
      obtain ⟨k, rfl, hk, rfl, hbr, hall⟩ := hrel
      by_cases hlt : k < 19
      · have hlt2 : k < sgB.size := hlt
        obtain ⟨d, hd⟩ : ∃ d : Int, ∀ h : k < (⟨#[40, 41, 91, 93, 123, 125, 60, 62, 44, 59, 58, 64, 33, 61, 43, 45, 42, 47, 37]⟩ : ByteArray).size, ((((⟨#[40, 41, 91, 93, 123, 125, 60, 62, 44, 59, 58, 64, 33, 61, 43, 45, 42, 47, 37]⟩ : ByteArray)[k]'h).toNat : Nat) : Int) = d := ⟨((sgB[k]'hlt2).toNat : Int), fun _ => rfl⟩
        have HDD := Lib.hid (show ((sgB[k]'hlt2).toNat : Int) = d from hd hlt2)
        by_cases he : d = c
        · have eb : (d == c) = true := by rw [he]; simp
          have HRN := Lib.hid (show r = 1 by rw [HRES.out, HB.out k hlt2 (HDD.out.trans he)]; rfl)
          clear he
          go_wp2_with fail
          go_quiet (fail)
          go_wp2
          go_ret
          exact ⟨ret_int (by rw [HRN.out]; rfl), pw_below_drewN hbr.out _⟩
        · have eb : (d == c) = false := beq_eq_false_iff_ne.2 he
          have HALL := Lib.hid (show ∀ j (h : j < sgB.size), j < k + 1 → ((sgB[j]'h).toNat : Int) ≠ c from fun j h hj => by
            rcases Nat.lt_or_ge j k with h1 | h1
            · exact hall.out j h h1
            · obtain rfl : j = k := by omega
              rw [HDD.out]
              exact he)
          clear he
          go_wp2_with fail
          go_quiet (fail)
          go_wp2
          go_roundg (19 - (k + 1))
          case measure => omega
          case rel => exact ⟨k + 1, by go_num, by omega, rfl, Lib.hid (pw_below_drewN hbr.out _), HALL⟩
      · obtain rfl : k = 19 := by omega
        have HRN := Lib.hid (show r = 0 by rw [HRES.out, HB2.out (fun j h => hall.out j h h)]; rfl)
        go_wp2
        go_ret
        exact ⟨ret_int (by rw [HRN.out]; rfl), hbr.out⟩
end Go.Proofs.YtfammikhejjjcaaDoor.Lex
