/- The reference's small tests on a text: letter, digit, name, number, sign. No condition. -/
import Derived.Test.YtfammikhejjjcaaDoorLex4
import Derived.Test.YtfammikhejjjcaaDoorRefName
namespace Go.Proofs.YtfammikhejjjcaaDoor.Lex
set_option linter.unusedVariables false
set_option linter.unusedSimpArgs false
open Go Go.Lib Go.RowKit Go.Proofs.YtfammikhejjjcaaDoorW.PrintWords Go.Proofs.YtfammikhejjjcaaDoor.Aux Go.Proofs.YtfammikhejjjcaaDoor.LatSpec Go.Proofs.YtfammikhejjjcaaDoor.LexSpec Go.Proofs.YtfammikhejjjcaaDoor.Kinds
theorem extM (s : ByteArray) (a b : Nat) : (s.extract a b).data.toList = (s.data.toList.drop a).take (b - a) := by
  rw [ByteArray.data_extract, Array.toList_extract, List.extract_eq_take_drop]
theorem slice_pk (s : ByteArray) (p k : Nat) (h : p + k ≤ s.size) (w : World) : (Instr.slice 9 (.string s) (some (.int .i64 (p : Int))) (some (.int .i64 ((p : Int) + k))) none).run Tryd.prog w = .ok (.string (s.extract p (p + k))) w := by
  have h1 := run_slice_string w 9 s .i64 .i64 (p : Int) ((p : Int) + k) Tryd.underlying9 (by omega) (by omega) (by omega)
  rwa [show ((p : Int)).toNat = p by omega, show ((p : Int) + k).toNat = p + k by omega] at h1
theorem ba_size (s : ByteArray) : s.size = s.data.toList.length := by simp
theorem ks_found {l : L} {k : Nat} (hd : k ≤ l.length) (hk1 : 1 ≤ k) (hk : k ≤ 2) (hn : nameR (l.take k) = true) (ha : ∀ j, 1 ≤ j → j < k → nameR (l.take j) = false) : ks l = k := by
  rcases (show k = 1 ∨ k = 2 by omega) with rfl | rfl
  · match l, hd with
    | [], hd => simp at hd
    | b :: t, _ =>
      rw [show (b :: t).take 1 = [b] from rfl, name_1] at hn
      simp only [Bool.and_eq_true, decide_eq_true_eq] at hn
      rw [ks_low hn.1, if_pos hn.2]
  · have h1 := ha 1 (by omega) (by omega)
    match l, hd with
    | [], hd => simp at hd
    | [b], hd => simp at hd
    | b :: c :: t, _ =>
      rw [show (b :: c :: t).take 1 = [b] from rfl] at h1
      rw [show (b :: c :: t).take 2 = [b, c] from rfl, name_2 b c h1] at hn
      simp only [Bool.and_eq_true, Bool.not_eq_true', decide_eq_false_iff_not] at hn
      rw [ks_two hn.1, if_pos hn.2]
theorem ks_zero {l : L} {k : Nat} (hk1 : 1 ≤ k) (hk : 3 ≤ k ∨ l.length < k) (ha : ∀ j, 1 ≤ j → j < k → nameR (l.take j) = false) : ks l = 0 := by
  match l, hk with
  | [], _ => rfl
  | [b], hk =>
    have h1 := ha 1 (by omega) (by simp at hk; omega)
    rw [show ([b] : L).take 1 = [b] from rfl, name_1] at h1
    by_cases hb : b.toNat < 128
    · rw [ks_low hb]
      simp only [hb, decide_true, Bool.true_and] at h1
      rw [h1]
      rfl
    · exact ks_one hb
  | b :: c :: t, hk =>
    simp only [List.length_cons] at hk
    have h1 := ha 1 (by omega) (by omega)
    have h2 := ha 2 (by omega) (by omega)
    rw [show (b :: c :: t).take 1 = [b] from rfl] at h1
    rw [show (b :: c :: t).take 2 = [b, c] from rfl, name_2 b c h1] at h2
    rw [name_1] at h1
    by_cases hb : b.toNat < 128
    · rw [ks_low hb]
      simp only [hb, decide_true, Bool.true_and] at h1
      rw [h1]
      rfl
    · rw [ks_two hb]
      simp only [hb, decide_false, Bool.not_false, Bool.true_and] at h2
      rw [h2]
      rfl
set_option maxRecDepth 100000 in
set_option maxHeartbeats 800000 in
theorem refletter_calls (s : ByteArray) (p : Nat) (w : World) (hp : p ≤ s.size) (hs : s.size ≤ 281474976710656) :
    Calls Tryd.prog 33 #[.string s, .int .i64 p] w fun e w' => e = .returned (.int .i64 (ks (s.data.toList.drop p))) ∧ w = w' := by
  have hl : s.data.toList.length = s.size := by simp
  have HL := Lib.hid hl
  have HN := Lib.hid (show ∀ k, k ≤ s.size → Calls Tryd.prog 35 #[.string (s.extract p k)] w fun e w' => e = .returned (.bool (nameR ((s.data.toList.drop p).take (k - p)))) ∧ w = w' from fun k hk => by
    have := RefName.name_calls (s.extract p k) w (by rw [ba_size, extM, List.length_take, List.length_drop, hl]; omega)
    rwa [extM, ← name_eq] at this)
  clear hl
  go_enter Tryd.func33, Tryd.ntmps33
  go_wp2_with fail
  go_loopg [5] (2) (fun g i wr => ∃ k : Nat, i = .int .i64 k ∧ 1 ≤ k ∧ k ≤ 3 ∧ g = 3 - k ∧ w = wr ∧ Hid (∀ j, 1 ≤ j → j < k → p + j ≤ s.size ∧ nameR ((s.data.toList.drop p).take j) = false))
  case atStart => exact ⟨1, rfl, Nat.le_refl _, by omega, by omega, rfl, Lib.hid (fun j h1 h2 => absurd h2 (by omega))⟩
  case round =>
    obtain ⟨k, rfl, hk1, hk3, rfl, rfl, hall⟩ := hrel
    by_cases hk : k ≤ 2
    · by_cases hlt : p + k ≤ s.size
      · have HC := Lib.hid (HN.out (p + k) hlt)
        rw [show p + k - p = k by omega] at HC
        have hsl := fun wx => slice_pk s p k hlt wx
        obtain ⟨t, ht⟩ : ∃ t, nameR ((s.data.toList.drop p).take k) = t := ⟨_, rfl⟩
        rw [ht] at HC
        have HT := Lib.hid ht
        clear ht
        cases t with
        | true =>
          have HRES := Lib.hid (show ks (s.data.toList.drop p) = k from ks_found (by rw [List.length_drop, HL.out]; omega) hk1 hk HT.out (fun j h1 h2 => (hall.out j h1 h2).2))
          go_wp2_with (go_at_call 35; refine HC.out.mono ?_; rintro e w4 ⟨rfl, rfl⟩)
          go_ret
          exact ⟨ret_int (by rw [HRES.out]), rfl⟩
        | false =>
          have HALL := Lib.hid (show ∀ j, 1 ≤ j → j < k + 1 → p + j ≤ s.size ∧ nameR ((s.data.toList.drop p).take j) = false from fun j h1 h2 => by
            rcases Nat.lt_or_ge j k with h | h
            · exact hall.out j h1 h
            · obtain rfl : j = k := by omega
              exact ⟨hlt, HT.out⟩)
          go_wp2_with (go_at_call 35; refine HC.out.mono ?_; rintro e w4 ⟨rfl, rfl⟩)
          go_roundg (3 - (k + 1))
          case measure => omega
          case rel => exact ⟨k + 1, by go_num, by omega, by omega, rfl, rfl, HALL⟩
      · have HRES := Lib.hid (show ks (s.data.toList.drop p) = 0 from ks_zero (k := k) hk1 (.inr (by rw [List.length_drop, HL.out]; omega)) (fun j h1 h2 => (hall.out j h1 h2).2))
        go_wp2
        go_ret
        exact ⟨ret_int (by rw [HRES.out]; rfl), rfl⟩
    · obtain rfl : k = 3 := by omega
      have HRES := Lib.hid (show ks (s.data.toList.drop p) = 0 from ks_zero (k := 3) hk1 (.inl (Nat.le_refl _)) (fun j h1 h2 => (hall.out j h1 h2).2))
      go_wp2
      go_ret
      exact ⟨ret_int (by rw [HRES.out]; rfl), rfl⟩
theorem isD_of {l : L} {b : UInt8} {t : L} {c : Int} (h : l = b :: t) (hb : (b.toNat : Int) = c) : isD l = (decide (48 ≤ c) && decide (c ≤ 57)) := by
  subst h
  rw [isD, Bool.eq_iff_iff]
  simp [digitR]
  omega
set_option maxRecDepth 100000 in
set_option maxHeartbeats 800000 in
theorem refdigit_calls (s : ByteArray) (p : Nat) (t : Bool) (w : World) (hp : p ≤ 9223372036854775807) (ht : isD (s.data.toList.drop p) = t) :
    Calls Tryd.prog 36 #[.string s, .int .i64 p] w fun e w' => e = .returned (.bool t) ∧ w = w' := by
  have HT := Lib.hid ht
  clear ht
  by_cases hlt : p < s.size
  · obtain ⟨c, hc⟩ : ∃ c : Int, ∀ h : p < s.size, ((s[p]'h).toNat : Int) = c := ⟨((s[p]'hlt).toNat : Int), fun _ => rfl⟩
    have hc0 : 0 ≤ c := by have := hc hlt; omega
    have hc1 : c ≤ 255 := by have := hc hlt; have := (s[p]'hlt).toNat_lt; omega
    obtain ⟨b, tl, hbt, hbc⟩ := drop_byte hlt hc
    have HR := Lib.hid (show t = (decide (48 ≤ c) && decide (c ≤ 57)) by rw [← HT.out, isD_of hbt hbc])
    clear hbt hbc
    rcases (show c < 48 ∨ (48 ≤ c ∧ c ≤ 57) ∨ 58 ≤ c from by omega) with h1 | ⟨h1, h2⟩ | h1
    all_goals
      go_enter Tryd.func36, Tryd.ntmps36
      go_wp2
      go_ret
      exact ⟨ret_bool (by rw [HR.out, Bool.eq_iff_iff]; simp; omega), rfl⟩
  · have HR := Lib.hid (show t = false by
      rw [← HT.out, List.drop_eq_nil_iff.2 (by have := ba_size s; omega)]
      rfl)
    go_enter Tryd.func36, Tryd.ntmps36
    go_wp2
    go_ret
    exact ⟨ret_bool HR.out.symm, rfl⟩
set_option maxRecDepth 100000 in
set_option maxHeartbeats 800000 in
theorem refname_calls (s : ByteArray) (p : Nat) (w : World) (hp : p ≤ s.size) (hs : s.size ≤ 281474976710656) :
    Calls Tryd.prog 34 #[.string s, .int .i64 p] w fun e w' => e = .returned (.int .i64 ((p + ofN wordP (s.data.toList.drop p) : Nat) : Int)) ∧ w = w' := by
  have hl : s.data.toList.length = s.size := by simp
  have HL := Lib.hid hl
  have HLT := Lib.hid (fun q (hq : q ≤ s.size) => refletter_calls s q w hq hs)
  have HDG := Lib.hid (fun q (hq : q ≤ s.size) t ht => refdigit_calls s q t w (by omega) ht)
  obtain ⟨r, hr⟩ : ∃ r, p + ofN wordP (s.data.toList.drop p) = r := ⟨_, rfl⟩
  rw [hr]
  have HR := Lib.hid hr
  clear hl hr
  go_enter Tryd.func34, Tryd.ntmps34
  go_wp2_with fail
  go_loopg [1] (s.size - p) (fun g i wr => ∃ q : Nat, i = .int .i64 q ∧ q ≤ s.size ∧ g = s.size - q ∧ w = wr ∧ Hid (r = q + ofN wordP (s.data.toList.drop q)))
  case atStart => exact ⟨p, rfl, hp, rfl, rfl, Lib.hid HR.out.symm⟩
  case round =>
    obtain ⟨q, rfl, hq, rfl, rfl, hres⟩ := hrel
    by_cases hlt : q < s.size
    · have hdl : (s.data.toList.drop q).length = s.size - q := by rw [List.length_drop, HL.out]
      have hne : s.data.toList.drop q ≠ [] := by intro e; rw [e] at hdl; simp at hdl; omega
      have hw := LexSpec.of_word hne
      have hk3 := kinds3 hne
      have HC := Lib.hid (HLT.out q hq)
      obtain ⟨k, hk⟩ : ∃ k, ks (s.data.toList.drop q) = k := ⟨_, rfl⟩
      rw [hk] at HC hw hk3
      have hkl : k ≤ s.size - q := by rcases hk3 with h | h | h <;> omega
      obtain ⟨t, ht⟩ : ∃ t, isD (s.data.toList.drop q) = t := ⟨_, rfl⟩
      have HD := Lib.hid (HDG.out q hq t ht)
      rw [ht] at hw
      have HW := Lib.hid hw
      clear hdl hne hk hk3 ht hw
      by_cases hk0 : k = 0
      · subst hk0
        have e0 : ((0 : Int) == 0) = true := rfl
        cases t with
        | true =>
          have HRN := Lib.hid (show r = (q + 1) + ofN wordP (s.data.toList.drop (q + 1)) by
            rw [hres.out, HW.out, if_neg (by omega), if_pos rfl, List.drop_drop]; omega)
          have hm : max (0 : Int) 1 = 1 := by decide
          go_wp2_with (first | (go_at_call 33; refine HC.out.mono ?_; rintro e w4 ⟨rfl, rfl⟩) | (go_at_call 36; refine HD.out.mono ?_; rintro e w4 ⟨rfl, rfl⟩))
          all_goals
            go_roundg (s.size - (q + 1))
            case measure => omega
            case rel => exact ⟨q + 1, by go_num, by omega, rfl, rfl, HRN⟩
        | false =>
          have HRN := Lib.hid (show r = q by
            rw [hres.out, HW.out, if_neg (by omega), if_neg (by simp)]; rfl)
          go_wp2_with (first | (go_at_call 33; refine HC.out.mono ?_; rintro e w4 ⟨rfl, rfl⟩) | (go_at_call 36; refine HD.out.mono ?_; rintro e w4 ⟨rfl, rfl⟩))
          go_ret
          exact ⟨ret_int (by rw [HRN.out]), rfl⟩
      · have e0 : ((k : Int) == 0) = false := by rw [beq_eq_false_iff_ne]; omega
        have HRN := Lib.hid (show r = (q + k) + ofN wordP (s.data.toList.drop (q + k)) by
          rw [hres.out, HW.out, if_pos (by omega), List.drop_drop]; omega)
        have hm : max (k : Int) 1 = k := by omega
        go_wp2_with (go_at_call 33; refine HC.out.mono ?_; rintro e w4 ⟨rfl, rfl⟩)
        all_goals
          go_roundg (s.size - (q + k))
          case measure => omega
          case rel => exact ⟨q + k, by go_num, by omega, rfl, rfl, HRN⟩
    · obtain rfl : q = s.size := by omega
      have HRN := Lib.hid (show r = s.size by
        rw [hres.out, List.drop_eq_nil_iff.2 (by rw [HL.out]; exact Nat.le_refl _), ofN_nil]; rfl)
      go_wp2
      go_ret
      exact ⟨ret_int (by rw [HRN.out]), rfl⟩
end Go.Proofs.YtfammikhejjjcaaDoor.Lex
