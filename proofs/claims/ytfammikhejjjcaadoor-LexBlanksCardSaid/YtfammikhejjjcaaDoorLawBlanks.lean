/- The law palisadelaw05.LexBlanks answers true at every text, place and remark. Conditions: what is laid. -/
import Derived.Test.YtfammikhejjjcaaDoorLawAgain
import Derived.Deep.RegionHeld3
namespace Go.Proofs.YtfammikhejjjcaaDoor.Lex
set_option linter.unusedVariables false
set_option linter.unusedSimpArgs false
open Go Go.Lib Go.RowKit Go.Proofs.YtfammikhejjjcaaDoorW.PrintWords Go.Proofs.YtfammikhejjjcaaDoor.Aux Go.Proofs.YtfammikhejjjcaaDoor.LatSpec Go.Proofs.YtfammikhejjjcaaDoor.LexSpec Go.Proofs.YtfammikhejjjcaaDoor.Kinds
theorem u16_range {x : Int} (h : (Lit.int .u16 x).wf = true) : 0 ≤ x ∧ x ≤ 65535 := by
  simp [Lit.wf, IntKind.min, IntKind.max, IntKind.bits, IntKind.signed] at h
  omega
/-- The text with the remark put in. -/
def putR (s remark : ByteArray) (k : Nat) : ByteArray := s.extract 0 k ++ ⟨#[10, 35]⟩ ++ remark ++ ⟨#[10, 9]⟩ ++ s.extract k s.size
theorem putR_list (s remark : ByteArray) (k : Nat) (hk : k ≤ s.size) : (putR s remark k).data.toList = s.data.toList.take k ++ rem remark.data.toList (s.data.toList.drop k) := by
  have hl : s.data.toList.length = s.size := by simp
  have e2 : (s.extract k s.size).data.toList = s.data.toList.drop k := by
    rw [show (s.extract k s.size).data.toList = (s.data.toList.drop k).take (s.size - k) by simp [ByteArray.data_extract, Array.toList_extract, List.extract_eq_take_drop], List.take_of_length_le (by rw [List.length_drop]; omega)]
  rw [putR, rem]
  simp only [ByteArray.data_append, Array.toList_append, e2, ext0]
  simp
theorem slice_to (s : ByteArray) (p : Nat) (h : p ≤ s.size) (w : World) : (Instr.slice 9 (.string s) none (some (.int .i64 (p : Int))) none).run Tryd.prog w = .ok (.string (s.extract 0 p)) w := by
  have h1 := run_slice_string_to_if w 9 s .i64 (p : Int) Tryd.underlying9
  rwa [if_pos ⟨by omega, by omega⟩] at h1
theorem slice_from (s : ByteArray) (p : Nat) (h : p ≤ s.size) (w : World) : (Instr.slice 9 (.string s) (some (.int .i64 (p : Int))) none none).run Tryd.prog w = .ok (.string (s.extract p s.size)) w := by
  have h1 := run_slice_string_from_if w 9 s .i64 (p : Int) Tryd.underlying9
  rwa [if_pos ⟨by omega, by omega⟩] at h1
theorem put_adds (s remark : ByteArray) (p : Nat) (h : p ≤ s.size) (hs : s.size ≤ 4000) (hr : remark.size ≤ 1000) :
    (∀ w : World, (Op.stringOp .add (s.extract 0 p) ⟨#[10, 35]⟩).run Tryd.prog w = .ok (.string (s.extract 0 p ++ ⟨#[10, 35]⟩)) w) ∧
    (∀ w : World, (Op.stringOp .add (s.extract 0 p ++ ⟨#[10, 35]⟩) remark).run Tryd.prog w = .ok (.string (s.extract 0 p ++ ⟨#[10, 35]⟩ ++ remark)) w) ∧
    (∀ w : World, (Op.stringOp .add (s.extract 0 p ++ ⟨#[10, 35]⟩ ++ remark) ⟨#[10, 9]⟩).run Tryd.prog w = .ok (.string (s.extract 0 p ++ ⟨#[10, 35]⟩ ++ remark ++ ⟨#[10, 9]⟩)) w) ∧
    (∀ w : World, (Op.stringOp .add (s.extract 0 p ++ ⟨#[10, 35]⟩ ++ remark ++ ⟨#[10, 9]⟩) (s.extract p s.size)).run Tryd.prog w = .ok (.string (s.extract 0 p ++ ⟨#[10, 35]⟩ ++ remark ++ ⟨#[10, 9]⟩ ++ s.extract p s.size)) w) := by
  have e1 : (⟨#[10, 35]⟩ : ByteArray).size = 2 := rfl
  have e2 : (⟨#[10, 9]⟩ : ByteArray).size = 2 := rfl
  refine ⟨fun w => run_string_add_sum w _ _ ?_, fun w => run_string_add_sum w _ _ ?_, fun w => run_string_add_sum w _ _ ?_, fun w => run_string_add_sum w _ _ ?_⟩ <;> simp only [ByteArray.size_append, ByteArray.size_extract, e1, e2] <;> omega
set_option maxRecDepth 100000 in
set_option maxHeartbeats 3200000 in
theorem blanks_calls (s : ByteArray) (at_ : Int) (remark : ByteArray) (w : World) (hT : Tbx w) (ha0 : 0 ≤ at_) (ha1 : at_ ≤ 65535) : Calls Tryd.prog 7 #[.string s, .int .u16 at_, .string remark] w fun e w' => e = .returned (.bool true) ∧ Below w.heap.size w w' := by
  obtain ⟨an, rfl⟩ : ∃ an : Nat, at_ = an := ⟨at_.toNat, by omega⟩
  have HA := Lib.hid (awake_calls w hT)
  have HT := Lib.hid hT
  clear hT
  by_cases hbig : 4000 < s.size
  · go_enter Tryd.func7, Tryd.ntmps7
    go_wp2_with fail
    refine HA.out.mono ?_
    rintro e w1 ⟨rfl, hb1⟩
    have HA1 := Lib.hid (awake_calls w1 (HT.out.below hb1))
    go_wp2_with (go_at_call 9; refine HA1.out.mono ?_; rintro e w2 ⟨rfl, hb2⟩)
    go_ret
    exact ⟨rfl, below_step hb1 hb2⟩
  by_cases hbig2 : 1000 < remark.size
  · go_enter Tryd.func7, Tryd.ntmps7
    go_wp2_with fail
    refine HA.out.mono ?_
    rintro e w1 ⟨rfl, hb1⟩
    have HA1 := Lib.hid (awake_calls w1 (HT.out.below hb1))
    go_wp2_with (go_at_call 9; refine HA1.out.mono ?_; rintro e w2 ⟨rfl, hb2⟩)
    go_ret
    exact ⟨rfl, below_step hb1 hb2⟩
  obtain ⟨ts, h1⟩ : ∃ ts, resL (readR s.data.toList) = ts := ⟨_, rfl⟩
  obtain ⟨a, h2⟩ : ∃ a, resA (readR s.data.toList) = a := ⟨_, rfl⟩
  obtain ⟨er, h3⟩ : ∃ a, resE (readR s.data.toList) = a := ⟨_, rfl⟩
  have HP := Lib.hid (fun W (hW : Tbx W) => read_parts s ts a er W (by omega) hW h1 h2 h3)
  have hn : ts.length ≤ 2000 := by rw [← h1]; exact readR_len _
  have hl : s.data.toList.length = s.size := by simp
  have HL := Lib.hid hl
  have hrl0 : remark.data.toList.length = remark.size := by simp
  have HRL := Lib.hid hrl0
  clear hl hrl0
  have H1 := Lib.hid h1
  have H3 := Lib.hid h3
  clear h1 h2 h3
  go_enter Tryd.func7, Tryd.ntmps7
  go_wp2_with fail
  refine HA.out.mono ?_
  rintro e w1 ⟨rfl, hb1⟩
  have HB1 := Lib.hid hb1
  have HC := Lib.hid (HP.out w1 (HT.out.below hb1))
  clear hb1
  go_wp2_with fail
  go_loopg [7] (remark.size) (fun g i wr => ∃ k : Nat, i = .int .i64 k ∧ k ≤ remark.size ∧ g = remark.size - k ∧ w1 = wr ∧ Hid (∀ b ∈ remark.data.toList.take k, b ≠ 10))
  case atStart => exact ⟨0, rfl, Nat.zero_le _, rfl, rfl, Lib.hid (by simp)⟩
  case round =>
    obtain ⟨k, rfl, hk, rfl, rfl, hall⟩ := hrel
    by_cases hlt : k < remark.size
    · obtain ⟨b, hbt⟩ : ∃ b : Int, ∀ h : k < remark.size, ((remark[k]'h).toNat : Int) = b := ⟨((remark[k]'hlt).toNat : Int), fun _ => rfl⟩
      have hb0 : 0 ≤ b := by have := hbt hlt; omega
      have hb1 : b ≤ 255 := by have := hbt hlt; have := (remark[k]'hlt).toNat_lt; omega
      by_cases h10 : b = 10
      · have e1 : (b == 10) = true := by simp [h10]
        clear h10
        go_wp2
        go_ret
        exact ⟨rfl, HB1.out⟩
      · have e1 : (b == 10) = false := by simp [h10]
        have HN := Lib.hid (show ∀ b ∈ remark.data.toList.take (k + 1), b ≠ 10 by
          have hlen : k < remark.data.toList.length := by simpa using hlt
          intro c hc
          rw [List.take_succ_eq_append_getElem hlen, List.mem_append, List.mem_singleton] at hc
          rcases hc with hc | rfl
          · exact hall.out c hc
          · intro h
            have e2 : remark.data.toList[k] = remark[k]'hlt := rfl
            have := hbt hlt
            rw [← e2, h] at this
            exact h10 this.symm)
        clear h10 hall
        go_wp2
        go_roundg (remark.size - (k + 1))
        case measure => omega
        case rel => exact ⟨k + 1, by go_num, by omega, rfl, rfl, HN⟩
    · obtain rfl : k = remark.size := by omega
      have hr10 : ∀ b ∈ remark.data.toList, b ≠ 10 := by
        have := hall.out
        rwa [List.take_of_length_le (by simp)] at this
      have HR10 := Lib.hid hr10
      clear hall hr10
      by_cases he : er = 0
      · subst he
        obtain ⟨_, hok⟩ := read_ok H3.out
        rw [H1.out] at hok
        have HOK := Lib.hid hok
        clear hok
        obtain ⟨r, hr⟩ : ∃ r : Nat, r = an % (ts.length + 1) := ⟨_, rfl⟩
        go_wp2_with fail
        refine HC.out.mono ?_
        rintro e w2 ⟨A, c, rfl, hC2, hb2⟩
        have HB2 := Lib.hid (below_step HB1.out hb2)
        have HC2 := Lib.hid hC2
        clear hb2 hC2
        have hrem : (an : Int) % ((ts.length : Int) + 1) = (r : Int) := by
          rw [hr]
          simp
        by_cases hpos : 0 < ts.length
        · by_cases hrl : r < ts.length
          · obtain ⟨ad, hA, a0, a1, a2, a3⟩ := elT HC2.out hrl
            subst hA
            have hf3 : 0 ≤ (ts.getD r zT).f3 := by
              obtain ⟨_, hwd⟩ := places_of HOK.out
              exact (hwd _ (by rw [List.getD_eq_getElem?_getD, List.getElem?_eq_getElem hrl]; exact List.getElem_mem hrl)).at0
            obtain ⟨p, hp⟩ : ∃ p : Nat, (ts.getD r zT).f3 = p := ⟨(ts.getD r zT).f3.toNat, by omega⟩
            rw [hp] at a3
            have HPI := Lib.hid hp
            clear a0 a1 a2 hf3 hp hr
            go_wp2
            obtain ⟨hps, us, q1, q2⟩ := blanks_rd HOK.out HR10.out (.inr ⟨r, hrl, show p = (ts.getD r zT).f3.toNat by rw [HPI.out]; rfl⟩)
            rw [HL.out] at hps
            have hputl := putR_list s remark p hps
            have hputs : (putR s remark p).size ≤ 6000 := by
              rw [ba_size, hputl, List.length_append, List.length_take, rem, List.length_cons, List.length_cons, List.length_append, List.length_cons, List.length_cons, List.length_drop, HL.out, HRL.out]
              omega
            obtain ⟨r1, r2, r3⟩ := read_rd (l := (putR s remark p).data.toList) (by rw [← ba_size]; omega) (by rw [hputl]; exact q1)
            have HP2 := Lib.hid (fun W (hW : Tbx W) => read_parts (putR s remark p) us 0 0 W (by omega) hW r1 r2 r3)
            have HUL : Hid (us.length = ts.length) := Lib.hid (by simpa using congrArg List.length q2)
            have HCO := Lib.hid q2
            have HUN := Lib.hid (show us.length ≤ 2000 by have := HUL.out; omega)
            clear q1 q2 r1 r2 r3 hputl hputs
            have HPX := Lib.hid (fun W (hb : Below w2.heap.size w2 W) => HP2.out W (HT.out.below (below_step HB2.out hb)))
            rw [putR] at HPX
            have hs1 := slice_to s p hps
            have hs2 := slice_from s p hps
            obtain ⟨ha1, ha2, ha3, ha4⟩ := put_adds s remark p hps (by omega) (by omega)
            go_region_held3 (fun w' => Below w2.heap.size w2 w') (first | exact Below.refl _ _ | assumption | exact Below.drew (Below.refl _ _) | exact Below.drew (by assumption)) ((go_at_call 10; refine (HPX.out _ (by first | assumption | exact Below.refl _ _ | exact Below.drew (Below.refl _ _) | exact Below.drew (by assumption))).mono ?_; rintro e w3 ⟨A2, c2, rfl, hC3, hb3⟩; have hbz : Below w2.heap.size w2 w3 := below_step (by first | assumption | exact Below.refl _ _ | exact Below.drew (Below.refl _ _) | exact Below.drew (by assumption)) hb3))
            have HC3 := Lib.hid hC3
            have HB3 := Lib.hid (below_step HB2.out hbz)
            have HPL := Lib.hid (plain_parts ts _ c w3 (Kd.C_below HC2.out hbz) hn)
            clear hb3 hC3 hbz
            go_wp2_with fail
            refine HPL.out.mono ?_
            rintro e w4 ⟨A3, c3, rfl, hC4, hb4⟩
            have HC4 := Lib.hid hC4
            have HB4 := Lib.hid (below_step HB3.out hb4)
            have HPM := Lib.hid (plain_parts us A2 c2 w4 (Kd.C_below HC3.out hb4) HUN.out)
            clear hb4 hC4
            go_wp2_with fail
            refine HPM.out.mono ?_
            rintro e w5 ⟨A4, c4, rfl, hC5, hb5⟩
            have HSM : Hid (Calls Tryd.prog 12 #[.slice A3 ts.length c3, .slice A4 us.length c4, .bool true] w5 fun e w' => e = .returned (.bool true) ∧ Below w5.heap.size w5 w') := Lib.hid (by
              have h := same_calls ts us A3 A4 c3 c4 true w5 (Kd.C_below HC4.out hb5) hC5 HUL.out (fun i hi => ⟨(core_getD HCO.out i hi).1, (core_getD HCO.out i hi).2.1, (core_getD HCO.out i hi).2.2, fun h => by cases h⟩)
              rw [HUL.out]
              exact h)
            have HB5 := Lib.hid (below_step HB4.out hb5)
            clear hb5 hC5
            go_wp2_with (go_at_call 12; refine HSM.out.mono ?_; rintro e w6 ⟨rfl, hb6⟩)
            go_ret
            exact ⟨rfl, below_step HB5.out hb6⟩
          · clear hr
            obtain ⟨p, hp⟩ : ∃ p : Nat, p = s.size := ⟨_, rfl⟩
            go_wp2_with fail
            rw [← hp]
            have HPI := Lib.hid hp
            clear hp
            obtain ⟨hps, us, q1, q2⟩ := blanks_rd HOK.out HR10.out (p := p) (.inl (by rw [HL.out]; exact HPI.out))
            rw [HL.out] at hps
            have hputl := putR_list s remark p hps
            have hputs : (putR s remark p).size ≤ 6000 := by
              rw [ba_size, hputl, List.length_append, List.length_take, rem, List.length_cons, List.length_cons, List.length_append, List.length_cons, List.length_cons, List.length_drop, HL.out, HRL.out]
              omega
            obtain ⟨r1, r2, r3⟩ := read_rd (l := (putR s remark p).data.toList) (by rw [← ba_size]; omega) (by rw [hputl]; exact q1)
            have HP2 := Lib.hid (fun W (hW : Tbx W) => read_parts (putR s remark p) us 0 0 W (by omega) hW r1 r2 r3)
            have HUL : Hid (us.length = ts.length) := Lib.hid (by simpa using congrArg List.length q2)
            have HCO := Lib.hid q2
            have HUN := Lib.hid (show us.length ≤ 2000 by have := HUL.out; omega)
            clear q1 q2 r1 r2 r3 hputl hputs
            have HPX := Lib.hid (fun W (hb : Below w2.heap.size w2 W) => HP2.out W (HT.out.below (below_step HB2.out hb)))
            rw [putR] at HPX
            have hs1 := slice_to s p hps
            have hs2 := slice_from s p hps
            obtain ⟨ha1, ha2, ha3, ha4⟩ := put_adds s remark p hps (by omega) (by omega)
            go_region_held3 (fun w' => Below w2.heap.size w2 w') (first | exact Below.refl _ _ | assumption | exact Below.drew (Below.refl _ _) | exact Below.drew (by assumption)) ((go_at_call 10; refine (HPX.out _ (by first | assumption | exact Below.refl _ _ | exact Below.drew (Below.refl _ _) | exact Below.drew (by assumption))).mono ?_; rintro e w3 ⟨A2, c2, rfl, hC3, hb3⟩; have hbz : Below w2.heap.size w2 w3 := below_step (by first | assumption | exact Below.refl _ _ | exact Below.drew (Below.refl _ _) | exact Below.drew (by assumption)) hb3))
            have HC3 := Lib.hid hC3
            have HB3 := Lib.hid (below_step HB2.out hbz)
            have HPL := Lib.hid (plain_parts ts _ c w3 (Kd.C_below HC2.out hbz) hn)
            clear hb3 hC3 hbz
            go_wp2_with fail
            refine HPL.out.mono ?_
            rintro e w4 ⟨A3, c3, rfl, hC4, hb4⟩
            have HC4 := Lib.hid hC4
            have HB4 := Lib.hid (below_step HB3.out hb4)
            have HPM := Lib.hid (plain_parts us A2 c2 w4 (Kd.C_below HC3.out hb4) HUN.out)
            clear hb4 hC4
            go_wp2_with fail
            refine HPM.out.mono ?_
            rintro e w5 ⟨A4, c4, rfl, hC5, hb5⟩
            have HSM : Hid (Calls Tryd.prog 12 #[.slice A3 ts.length c3, .slice A4 us.length c4, .bool true] w5 fun e w' => e = .returned (.bool true) ∧ Below w5.heap.size w5 w') := Lib.hid (by
              have h := same_calls ts us A3 A4 c3 c4 true w5 (Kd.C_below HC4.out hb5) hC5 HUL.out (fun i hi => ⟨(core_getD HCO.out i hi).1, (core_getD HCO.out i hi).2.1, (core_getD HCO.out i hi).2.2, fun h => by cases h⟩)
              rw [HUL.out]
              exact h)
            have HB5 := Lib.hid (below_step HB4.out hb5)
            clear hb5 hC5
            go_wp2_with (go_at_call 12; refine HSM.out.mono ?_; rintro e w6 ⟨rfl, hb6⟩)
            go_ret
            exact ⟨rfl, below_step HB5.out hb6⟩
        · clear hr
          obtain ⟨p, hp⟩ : ∃ p : Nat, p = s.size := ⟨_, rfl⟩
          go_wp2_with fail
          rw [← hp]
          have HPI := Lib.hid hp
          clear hp
          obtain ⟨hps, us, q1, q2⟩ := blanks_rd HOK.out HR10.out (p := p) (.inl (by rw [HL.out]; exact HPI.out))
          rw [HL.out] at hps
          have hputl := putR_list s remark p hps
          have hputs : (putR s remark p).size ≤ 6000 := by
            rw [ba_size, hputl, List.length_append, List.length_take, rem, List.length_cons, List.length_cons, List.length_append, List.length_cons, List.length_cons, List.length_drop, HL.out, HRL.out]
            omega
          obtain ⟨r1, r2, r3⟩ := read_rd (l := (putR s remark p).data.toList) (by rw [← ba_size]; omega) (by rw [hputl]; exact q1)
          have HP2 := Lib.hid (fun W (hW : Tbx W) => read_parts (putR s remark p) us 0 0 W (by omega) hW r1 r2 r3)
          have HUL : Hid (us.length = ts.length) := Lib.hid (by simpa using congrArg List.length q2)
          have HCO := Lib.hid q2
          have HUN := Lib.hid (show us.length ≤ 2000 by have := HUL.out; omega)
          clear q1 q2 r1 r2 r3 hputl hputs
          have HPX := Lib.hid (fun W (hb : Below w2.heap.size w2 W) => HP2.out W (HT.out.below (below_step HB2.out hb)))
          rw [putR] at HPX
          have hs1 := slice_to s p hps
          have hs2 := slice_from s p hps
          obtain ⟨ha1, ha2, ha3, ha4⟩ := put_adds s remark p hps (by omega) (by omega)
          go_region_held3 (fun w' => Below w2.heap.size w2 w') (first | exact Below.refl _ _ | assumption | exact Below.drew (Below.refl _ _) | exact Below.drew (by assumption)) ((go_at_call 10; refine (HPX.out _ (by first | assumption | exact Below.refl _ _ | exact Below.drew (Below.refl _ _) | exact Below.drew (by assumption))).mono ?_; rintro e w3 ⟨A2, c2, rfl, hC3, hb3⟩; have hbz : Below w2.heap.size w2 w3 := below_step (by first | assumption | exact Below.refl _ _ | exact Below.drew (Below.refl _ _) | exact Below.drew (by assumption)) hb3))
          have HC3 := Lib.hid hC3
          have HB3 := Lib.hid (below_step HB2.out hbz)
          have HPL := Lib.hid (plain_parts ts _ c w3 (Kd.C_below HC2.out hbz) hn)
          clear hb3 hC3 hbz
          go_wp2_with fail
          refine HPL.out.mono ?_
          rintro e w4 ⟨A3, c3, rfl, hC4, hb4⟩
          have HC4 := Lib.hid hC4
          have HB4 := Lib.hid (below_step HB3.out hb4)
          have HPM := Lib.hid (plain_parts us A2 c2 w4 (Kd.C_below HC3.out hb4) HUN.out)
          clear hb4 hC4
          go_wp2_with fail
          refine HPM.out.mono ?_
          rintro e w5 ⟨A4, c4, rfl, hC5, hb5⟩
          have HSM : Hid (Calls Tryd.prog 12 #[.slice A3 ts.length c3, .slice A4 us.length c4, .bool true] w5 fun e w' => e = .returned (.bool true) ∧ Below w5.heap.size w5 w') := Lib.hid (by
            have h := same_calls ts us A3 A4 c3 c4 true w5 (Kd.C_below HC4.out hb5) hC5 HUL.out (fun i hi => ⟨(core_getD HCO.out i hi).1, (core_getD HCO.out i hi).2.1, (core_getD HCO.out i hi).2.2, fun h => by cases h⟩)
            rw [HUL.out]
            exact h)
          have HB5 := Lib.hid (below_step HB4.out hb5)
          clear hb5 hC5
          go_wp2_with (go_at_call 12; refine HSM.out.mono ?_; rintro e w6 ⟨rfl, hb6⟩)
          go_ret
          exact ⟨rfl, below_step HB5.out hb6⟩
      · have en : (er != 0) = true := by rw [bne_iff_ne]; exact he
        go_wp2_with fail
        refine HC.out.mono ?_
        rintro e w2 ⟨A, c, rfl, _, hb2⟩
        go_wp2
        go_ret
        exact ⟨rfl, below_step HB1.out hb2⟩
end Go.Proofs.YtfammikhejjjcaaDoor.Lex
