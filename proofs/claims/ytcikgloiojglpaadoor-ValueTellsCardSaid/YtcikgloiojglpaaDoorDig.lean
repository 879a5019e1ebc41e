/- palisaderef03.Digits, at every number: its decimal digits. No condition. -/
import Derived.Test.YtcikgloiojglpaaDoorVal5
namespace Go.Proofs.YtcikgloiojglpaaDoor.Val
set_option linter.unusedVariables false
set_option linter.unusedSimpArgs false
open Go.RowKit Go.Proofs.YtcikgloiojglpaaDoorW.PrintWords Go.Proofs.YtcikgloiojglpaaDoor.Aux Go.Proofs.YtcikgloiojglpaaDoor.Kinds Go.Proofs.YtcikgloiojglpaaDoor.ValSpec
theorem w_neg (l : List UInt8) : (⟨#[45]⟩ : ByteArray) ++ bs l = bs (45 :: l) := by
  rw [show (⟨#[45]⟩ : ByteArray) = bs [45] from rfl, bs_append]
  rfl
def dg (m : Nat) : UInt8 := UInt8.ofNat (48 + m % 10)
theorem bytes_one (W : World) (m : Nat) (x : Int) (hx : x = 48 + (m : Int) % 10) : (convert 43 9 (.slice (some ⟨W.heap.size, 0, none⟩) 1 1)).run Tryd.prog (W.alloc (.cells #[.int .u8 x] 5)) = .ok (.string (bs [dg m])) (W.alloc (.cells #[.int .u8 x] 5)) := by
  have h := run_convert_bytes_arg (P := Tryd.prog) (W.alloc (.cells #[.int .u8 x] 5)) 43 5 Tryd.underlying43 Tryd.underlying5 W.heap.size 0 1 1 [x] rfl (fun i hi => by
    obtain rfl : i = 0 := by omega
    exact (blk_cell (blk_new W (.cells #[.int .u8 x] 5)) 0).trans rfl) 9 Tryd.underlying9
  rw [h]
  have : strOfNums [x] = bs [dg m] := by
    subst hx
    simp only [strOfNums, bs, dg, List.map_cons, List.map_nil]
    congr 4
  rw [this]
/-- Where the loop stands: what is left, and what was told. -/
def Dig (u m : Nat) (l : List UInt8) : Prop := (l = [] ∧ m = u) ∨ (l ≠ [] ∧ ((m = 0 ∧ Lib.decDigits u = l) ∨ (m ≠ 0 ∧ Lib.decDigits u = Lib.decDigits m ++ l)))
theorem Dig.step {u m : Nat} {l : List UInt8} (h : Dig u m l) (hgo : m ≠ 0 ∨ l = []) : Dig u (m / 10) (dg m :: l) := by
  refine .inr ⟨by simp, ?_⟩
  have key : Lib.decDigits u = Lib.decDigits m ++ l := by
    rcases h with ⟨rfl, rfl⟩ | ⟨hl, ⟨rfl, h2⟩ | ⟨_, h2⟩⟩
    · simp
    · rcases hgo with h | h
      · exact absurd rfl h
      · exact absurd h hl
    · exact h2
  by_cases hm : m < 10
  · refine .inl ⟨by omega, ?_⟩
    rw [key, Lib.decDigits_one hm]
    simp [dg, Nat.mod_eq_of_lt hm]
  · refine .inr ⟨by omega, ?_⟩
    rw [key, Lib.decDigits, dif_neg hm]
    simp [dg]
theorem Dig.end_ {u : Nat} {a : UInt8} {l : List UInt8} (h : Dig u 0 (a :: l)) : Lib.decDigits u = a :: l := by
  rcases h with ⟨h, _⟩ | ⟨_, ⟨_, h2⟩ | ⟨h, _⟩⟩
  · cases h
  · exact h2
  · exact absurd rfl h
theorem Dig.len {u m : Nat} {l : List UInt8} (h : Dig u m l) (hu : u ≤ 9223372036854775808) : l.length ≤ 19 := by
  have h1 := nDigits_le 19 u (by omega) (by omega)
  rw [← Lib.decDigits_length] at h1
  rcases h with ⟨rfl, _⟩ | ⟨_, ⟨_, h2⟩ | ⟨_, h2⟩⟩
  · simp
  · rw [← h2]; exact h1
  · rw [h2, List.length_append] at h1; omega
theorem itoa_pos (u : Nat) : Lib.itoa (u : Int) = Lib.decDigits u := by
  unfold Lib.itoa
  rw [if_neg (by omega)]
  simp
theorem itoa_neg {u : Nat} (h : 0 < u) : Lib.itoa (-(u : Int)) = 45 :: Lib.decDigits u := by
  unfold Lib.itoa
  rw [if_pos (by omega)]
  simp
set_option maxRecDepth 100000 in
set_option maxHeartbeats 1600000 in
theorem digits_pos (u : Nat) (w : World) (hu : (u : Int) ≤ 9223372036854775807) :
    Calls Tryd.prog 23 #[.int .i64 (u : Int)] w fun e w' => e = .returned (.string (bs (Lib.decDigits u))) ∧ Below w.heap.size w w' := by
  go_enter Tryd.func23, Tryd.ntmps23
  go_wp2_with fail
  go_loopg [0, 3] (u + 1) (fun g x s wx => ∃ (m : Nat) (l : List UInt8), x = .int .i64 (m : Int) ∧ m ≤ u ∧ s = .string (bs l) ∧ (∃ d : Nat, g = m + d ∧ Hid (l = [] → d = 1)) ∧ Hid (Dig u m l) ∧ Hid (Below w.heap.size w wx))
  case atStart => exact ⟨u, [], rfl, Nat.le_refl _, rfl, ⟨1, rfl, Lib.hid (fun _ => rfl)⟩, Lib.hid (.inl ⟨rfl, rfl⟩), Lib.hid (Below.refl _ _)⟩
  case round =>
    obtain ⟨m, l, rfl, hm, rfl, ⟨d, rfl, hdd⟩, hdg, hbr⟩ := hrel
    have hz0 := hdg.out.len (by omega)
    have z1 : (bs l).size ≤ 19 := by rw [bs_size]; exact hz0
    have z2 : (bs [dg m]).size ≤ 1 := by rw [bs_size]; simp
    by_cases hm0 : m = 0
    · subst hm0
      cases l with
      | nil =>
        have s0 : ((bs []).toList == ByteArray.toList ⟨#[]⟩) = true := by rw [beq_iff_eq, ByteArray.toList_eq, ByteArray.toList_eq]; rfl
        have s1 : (bs []).toList = [] := by rw [ByteArray.toList_eq]; rfl
        have HN := Lib.hid (hdg.out.step (.inr rfl))
        have hd1 : 1 ≤ d := Nat.le_of_eq (hdd.out rfl).symm
        have hcv := bytes_one wr 0 48 rfl
        go_wp2
        go_roundg 0
        case measure => omega
        case rel => exact ⟨0, _, rfl, by omega, by rw [bs_append]; rfl, ⟨0, rfl, Lib.hid (fun h => by cases h)⟩, HN, Lib.hid (Below.alloc hbr.out hbr.out.size _)⟩
      | cons a l =>
        have s0 : ((bs (a :: l)).toList == ByteArray.toList ⟨#[]⟩) = false := by rw [beq_eq_false_iff_ne, ByteArray.toList_eq, bs_list]; simp
        have s1 : (bs (a :: l)).toList.isEmpty = false := by rw [ByteArray.toList_eq, bs_list]; rfl
        have HE := Lib.hid hdg.out.end_
        go_wp2
        go_ret
        exact ⟨ret_str (by rw [HE.out]), hbr.out⟩
    · have q0 : ((m : Int) != 0) = true := by rw [bne_iff_ne]; omega
      have q1 : ((m : Int) == 0) = false := by rw [beq_eq_false_iff_ne]; omega
      have HN := Lib.hid (hdg.out.step (.inl hm0))
      have hmp : 0 < m := by omega
      clear hm0
      have hcv := bytes_one wr m (48 + (m : Int) % 10) rfl
      go_wp2
      go_roundg (m / 10)
      case measure => omega
      case rel => exact ⟨m / 10, _, by go_num, by omega, by rw [bs_append]; rfl, ⟨0, rfl, Lib.hid (fun h => by cases h)⟩, HN, Lib.hid (Below.alloc hbr.out hbr.out.size _)⟩
set_option maxRecDepth 100000 in
set_option maxHeartbeats 1600000 in
theorem digits_neg (u : Nat) (w : World) (hu : (u : Int) ≤ 9223372036854775808) (h0 : 0 < u) :
    Calls Tryd.prog 23 #[.int .i64 (-(u : Int))] w fun e w' => e = .returned (.string (bs (45 :: Lib.decDigits u))) ∧ Below w.heap.size w w' := by
  go_enter Tryd.func23, Tryd.ntmps23
  go_wp2_with fail
  go_loopg [0, 3] (u + 1) (fun g x s wx => ∃ (m : Nat) (l : List UInt8), x = .int .i64 (-(m : Int)) ∧ m ≤ u ∧ s = .string (bs l) ∧ (∃ d : Nat, g = m + d ∧ Hid (l = [] → d = 1)) ∧ Hid (Dig u m l) ∧ Hid (Below w.heap.size w wx))
  case atStart => exact ⟨u, [], rfl, Nat.le_refl _, rfl, ⟨1, rfl, Lib.hid (fun _ => rfl)⟩, Lib.hid (.inl ⟨rfl, rfl⟩), Lib.hid (Below.refl _ _)⟩
  case round =>
    obtain ⟨m, l, rfl, hm, rfl, ⟨d, rfl, hdd⟩, hdg, hbr⟩ := hrel
    have hz0 := hdg.out.len (by omega)
    have z1 : (bs l).size ≤ 19 := by rw [bs_size]; exact hz0
    have z2 : (bs [dg m]).size ≤ 1 := by rw [bs_size]; simp
    by_cases hm0 : m = 0
    · subst hm0
      cases l with
      | nil =>
        have s0 : ((bs []).toList == ByteArray.toList ⟨#[]⟩) = true := by rw [beq_iff_eq, ByteArray.toList_eq, ByteArray.toList_eq]; rfl
        have s1 : (bs []).toList = [] := by rw [ByteArray.toList_eq]; rfl
        have HN := Lib.hid (hdg.out.step (.inr rfl))
        have hd1 : 1 ≤ d := Nat.le_of_eq (hdd.out rfl).symm
        exact absurd h0 (by have := hdg.out; rcases this with ⟨_, h⟩ | ⟨h, _⟩; omega; exact absurd rfl h)
      | cons a l =>
        have s0 : ((bs (a :: l)).toList == ByteArray.toList ⟨#[]⟩) = false := by rw [beq_eq_false_iff_ne, ByteArray.toList_eq, bs_list]; simp
        have s1 : (bs (a :: l)).toList.isEmpty = false := by rw [ByteArray.toList_eq, bs_list]; rfl
        have HE := Lib.hid hdg.out.end_
        go_wp2
        go_ret
        exact ⟨ret_str (by rw [HE.out]; exact w_neg _), hbr.out⟩
    · have q0 : ((-(m : Int)) != 0) = true := by rw [bne_iff_ne]; omega
      have q1 : ((-(m : Int)) == 0) = false := by rw [beq_eq_false_iff_ne]; omega
      have HN := Lib.hid (hdg.out.step (.inl hm0))
      have hmp : 0 < m := by omega
      clear hm0
      by_cases hd : m % 10 = 0
      · have r1 : (-(m : Int)).tmod 10 = 0 := by rw [Int.neg_tmod, Int.tmod_eq_emod_of_nonneg (by omega)]; try omega
        have r2 : (-(m : Int)).tdiv 10 = -((m : Int) / 10) := by rw [Int.neg_tdiv, Int.tdiv_eq_ediv_of_nonneg (by omega)]
        have hcv := bytes_one wr m 48 (by omega)
        clear hd
        go_wp2
        go_roundg (m / 10)
        case measure => omega
        case rel => exact ⟨m / 10, _, by rw [show (-((m / 10 : Nat) : Int)) = -((m : Int) / 10) by omega], by omega, by rw [bs_append]; rfl, ⟨0, rfl, Lib.hid (fun h => by cases h)⟩, HN, Lib.hid (Below.alloc hbr.out hbr.out.size _)⟩
      · have r1 : (-(m : Int)).tmod 10 = -((m : Int) % 10) := by rw [Int.neg_tmod, Int.tmod_eq_emod_of_nonneg (by omega)]; try omega
        have r2 : (-(m : Int)).tdiv 10 = -((m : Int) / 10) := by rw [Int.neg_tdiv, Int.tdiv_eq_ediv_of_nonneg (by omega)]
        have hcv := bytes_one wr m (48 + (m : Int) % 10) (by omega)
        have r5 : 0 < (m : Int) % 10 := by omega
        clear hd
        go_wp2
        go_roundg (m / 10)
        case measure => omega
        case rel => exact ⟨m / 10, _, by rw [show (-((m / 10 : Nat) : Int)) = -((m : Int) / 10) by omega], by omega, by rw [bs_append]; rfl, ⟨0, rfl, Lib.hid (fun h => by cases h)⟩, HN, Lib.hid (Below.alloc hbr.out hbr.out.size _)⟩
theorem digits_calls (n : Int) (w : World) (h0 : -9223372036854775808 ≤ n) (h1 : n ≤ 9223372036854775807) :
    Calls Tryd.prog 23 #[.int .i64 n] w fun e w' => e = .returned (.string (bs (Lib.itoa n))) ∧ Below w.heap.size w w' := by
  by_cases h : 0 ≤ n
  · obtain ⟨u, rfl⟩ := Int.eq_ofNat_of_zero_le h
    rw [itoa_pos]
    exact digits_pos u w h1
  · obtain ⟨u, hu⟩ := Int.eq_ofNat_of_zero_le (show 0 ≤ -n by omega)
    obtain rfl : n = -(u : Int) := by omega
    rw [itoa_neg (by omega)]
    exact digits_neg u w (by omega) (by omega)
end Go.Proofs.YtcikgloiojglpaaDoor.Val
