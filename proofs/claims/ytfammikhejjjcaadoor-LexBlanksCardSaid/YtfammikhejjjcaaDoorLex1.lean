/- The small tests of package lex on one rune, and how many bytes of a text's beginning they take. Conditions: the tables of unicode/utf8 and of package strings, and strconv's error, are laid. -/
import Derived.Test.YtfammikhejjjcaaDoorLexSpec
import Derived.Test.YtfammikhejjjcaaDoorLatName
import Derived.Test.YtfammikhejjjcaaDoorShelf
import Derived.Lib.RuneBytes
import Derived.WalkLawsBesides
namespace Go.Proofs.YtfammikhejjjcaaDoor.Lex
set_option linter.unusedVariables false
set_option linter.unusedSimpArgs false
open Go Go.Lib Go.RowKit Go.Proofs.YtfammikhejjjcaaDoorW.PrintWords Go.Proofs.YtfammikhejjjcaaDoor.Aux Go.Proofs.YtfammikhejjjcaaDoor.LatSpec Go.Proofs.YtfammikhejjjcaaDoor.LexSpec
/-- What is laid, now and as long as nothing old is touched. -/
def Tbx (w : World) : Prop := ∀ W, Below w.heap.size w W → Lib.Utf8Tabs 3 4 W ∧ Lib.TabIs Tryd.prog W "strings.asciiSpace" .u8 Lib.asciiSpaceTab ∧ ∃ te pe, W.cell? ⟨6, 0, none⟩ = some (.iface te pe)
theorem Tbx.below {w w1 : World} (h : Tbx w) (hb : Below w.heap.size w w1) : Tbx w1 := fun W hW => h W (below_step hb hW)
theorem Tbx.here {w : World} (h : Tbx w) : Lib.Utf8Tabs 3 4 w := (h w (Below.refl _ _)).1
theorem toU (n : Nat) (z : Int) (h : z = n) : z.toNat.toUInt8 = UInt8.ofNat n := by
  subst h
  rfl
theorem enc_bytes (r : Nat) : (Utf8.encode (r : Int)).data.toList = Lib.encodeRune (r : Int) := by
  unfold Lib.encodeRune
  by_cases c1 : r < 128
  · have v : Utf8.valid (r : Int) = true := by simp [Utf8.valid]; omega
    rw [Lib.encodeRuneZ_one (by omega) (by omega), List.map_cons, List.map_nil, toU r _ (by omega)]
    simp [Utf8.encode, v, c1]
  by_cases c2 : r < 2048
  · have v : Utf8.valid (r : Int) = true := by simp [Utf8.valid]; omega
    rw [Lib.encodeRuneZ_two (by omega) (by omega), List.map_cons, List.map_cons, List.map_nil, toU (192 + r / 64) _ (by omega), toU (128 + r % 64) _ (by omega)]
    simp [Utf8.encode, v, c1, c2]
  by_cases hb : (55296 ≤ r ∧ r ≤ 57343) ∨ 1114111 < r
  · have v : Utf8.valid (r : Int) = false := by simp [Utf8.valid]; omega
    rw [Lib.encodeRuneZ_bad (by omega)]
    simp [Utf8.encode, v, Utf8.runeError]
  have v : Utf8.valid (r : Int) = true := by simp [Utf8.valid]; omega
  by_cases c3 : r < 65536
  · rw [Lib.encodeRuneZ_three (by omega), List.map_cons, List.map_cons, List.map_cons, List.map_nil, toU (224 + r / 4096) _ (by omega), toU (128 + r / 64 % 64) _ (by omega), toU (128 + r % 64) _ (by omega)]
    simp [Utf8.encode, v, c1, c2, c3]
  · rw [Lib.encodeRuneZ_four (by omega) (by omega), List.map_cons, List.map_cons, List.map_cons, List.map_cons, List.map_nil, toU (240 + r / 262144) _ (by omega), toU (128 + r / 4096 % 64) _ (by omega), toU (128 + r / 64 % 64) _ (by omega), toU (128 + r % 64) _ (by omega)]
    simp [Utf8.encode, v, c1, c2, c3]
/-- string(r) of a rune that a text begins with is the text's first bytes. -/
theorem rune_str {l : L} (hne : l ≠ []) (h : (decodeL l).1 ≠ 65533) : (Utf8.encode ((decodeL l).1 : Int)).data.toList = l.take (decodeL l).2 := by
  rw [enc_bytes, Lib.encode_decode l hne (fun x => h x.1)]
theorem letter_calls (r : Nat) (t : Bool) (w : World) (hT : Tbx w) (h : nameP (Utf8.encode (r : Int)).data.toList = t) (hs : (Utf8.encode (r : Int)).size ≤ 4) :
    Calls Tryd.prog 27 #[.string (Utf8.encode (r : Int))] w fun e w' => e = .returned (.bool t) ∧ Below w.heap.size w w' := by
  have HC := Lib.hid (LatName.name_calls (Utf8.encode (r : Int)) w (by omega) hT.here)
  rw [h] at HC
  clear hT h
  generalize Utf8.encode (r : Int) = s at *
  go_enter Tryd.func27, Tryd.ntmps27
  go_wp2_with (go_at_call 30; refine HC.out.mono ?_; rintro e wx ⟨rfl, hb⟩)
  go_ret
  exact ⟨rfl, hb⟩
def dgS (s : ByteArray) : Bool := !Op.bytesLess s.toList [48] && ((Op.bytesLess s.toList [57] || s.toList == [57]) && (s.size : Int) == 1)
theorem dgS_of {s : ByteArray} {l : L} (hne : l ≠ []) (h : s.data.toList = l.take (decodeL l).2) : dgS s = digitR (decodeL l).1 := by
  have hsz : s.size = (l.take (decodeL l).2).length := by rw [← h]; simp
  rw [dgS, ByteArray.toList_eq, hsz, h]
  match l, hne with
  | b :: t, _ =>
    have hb2 := b.toNat_lt
    by_cases hb : b.toNat < 128
    · rw [decodeL_ascii b t hb]
      show (!Op.bytesLess [b] [48] && ((Op.bytesLess [b] [57] || [b] == [57]) && true)) = digitR b.toNat
      have e1 : Op.bytesLess [b] [48] = decide (b.toNat < 48) := by
        simp only [Op.bytesLess, Bool.and_false, Bool.or_false]
        rw [Bool.eq_iff_iff]
        simp [UInt8.lt_iff_toNat_lt]
      have e2 : Op.bytesLess [b] [57] = decide (b.toNat < 57) := by
        simp only [Op.bytesLess, Bool.and_false, Bool.or_false]
        rw [Bool.eq_iff_iff]
        simp [UInt8.lt_iff_toNat_lt]
      have e3 : ([b] == [57]) = decide (b.toNat = 57) := by
        rw [Bool.eq_iff_iff]
        simp [← UInt8.toNat_inj]
      rw [e1, e2, e3, Bool.eq_iff_iff]
      simp [digitR]
      omega
    · rw [high_digit hb]
      have hw := decodeL_width (b :: t)
      obtain ⟨d, hd⟩ : ∃ d, (decodeL (b :: t)).2 = d + 1 := ⟨(decodeL (b :: t)).2 - 1, by omega⟩
      rw [hd, List.take_succ_cons]
      have e2 : Op.bytesLess (b :: t.take d) [57] = false := by
        simp only [Op.bytesLess, Bool.and_false, Bool.or_false]
        rw [decide_eq_false_iff_not, UInt8.lt_iff_toNat_lt]
        show ¬ b.toNat < 57
        omega
      have e3 : (b :: t.take d == [57]) = false := by
        rw [beq_eq_false_iff_ne]
        intro e
        injection e with e
        rw [e] at hb
        exact hb (by decide)
      rw [e2, e3]
      simp
theorem digit_calls (s : ByteArray) (t : Bool) (w : World) (ht : dgS s = t) :
    Calls Tryd.prog 29 #[.string s] w fun e w' => e = .returned (.bool t) ∧ Below w.heap.size w w' := by
  subst ht
  have HB := Lib.hid (Below.refl w.heap.size w)
  go_enter Tryd.func29, Tryd.ntmps29
  go_wp2
  · rename_i h1
    have HR := Lib.hid (show dgS s = false by simp [dgS, h1])
    go_ret
    exact ⟨ret_bool HR.out.symm, HB.out⟩
  · rename_i h1 h2
    have HR := Lib.hid (show dgS s = ((Op.bytesLess s.toList [57] || s.toList == [57]) && (s.size : Int) == 1) by simp only [dgS, h1]; simp)
    go_ret
    exact ⟨ret_bool HR.out.symm, HB.out⟩
  · rename_i h1 h2
    have HR := Lib.hid (show dgS s = false by
      have : (Op.bytesLess s.toList [57] || s.toList == [57]) = false := by simpa using h2
      simp [dgS, this])
    go_ret
    exact ⟨ret_bool HR.out.symm, HB.out⟩
theorem word1_calls (r : Nat) (a b t : Bool) (w : World) (hT : Tbx w) (h : nameP (Utf8.encode (r : Int)).data.toList = a) (h2 : dgS (Utf8.encode (r : Int)) = b) (ht : (a || b) = t) (hs : (Utf8.encode (r : Int)).size ≤ 4) :
    Calls Tryd.prog 28 #[.string (Utf8.encode (r : Int))] w fun e w' => e = .returned (.bool t) ∧ Below w.heap.size w w' := by
  have HC := Lib.hid (letter_calls r a w hT h hs)
  have HD := Lib.hid (fun W => digit_calls (Utf8.encode (r : Int)) b W h2)
  subst ht
  clear hT h h2
  generalize Utf8.encode (r : Int) = s at *
  go_enter Tryd.func28, Tryd.ntmps28
  go_wp2_with fail
  refine HC.out.mono ?_
  rintro e w1 ⟨rfl, hb1⟩
  cases a with
  | true =>
    go_wp2
    go_ret
    exact ⟨rfl, hb1⟩
  | false =>
    go_wp2_with (go_at_call 29; refine (HD.out _).mono ?_; rintro e w2 ⟨rfl, hb2⟩)
    go_ret
    exact ⟨rfl, below_step hb1 hb2⟩
set_option maxHeartbeats 800000 in
theorem of_letter (s : ByteArray) (w : World) (hT : Tbx w) :
    Calls Tryd.prog 26 #[.string s, .func (.func 27) #[] #[]] w fun e w' => e = .returned (.int .i64 (ofN letterR s.data.toList)) ∧ Below w.heap.size w w' := by
  have HT := Lib.hid hT
  clear hT
  go_enter Tryd.func26, Tryd.ntmps26
  go_wp2_with fail
  obtain ⟨G, hG⟩ : ∃ G, G = w.heap.size := ⟨_, rfl⟩
  have hit0 : (w.iter s 0).heap[G]? = some (.stringIter s 0) := by rw [hG]; exact World.iter_heap w s 0
  have hb0 : Below w.heap.size w (w.iter s 0) := below_alloc (Below.refl _ _) _
  have hGw : w.heap.size ≤ G := by omega
  have hsw : G < (w.iter s 0).heap.size := (Array.getElem?_eq_some_iff.1 hit0).1
  rw [← hG]
  generalize w.iter s 0 = w2 at hit0 hb0 hsw ⊢
  have HIT := Lib.hid hit0
  have HB0 := Lib.hid hb0
  have HG := Lib.hid hG
  have hl : s.data.toList.length = s.size := by simp
  have HL := Lib.hid hl
  clear hit0 hb0 hG hl
  go_loopw [] (fun wr => ∃ p : Nat, p ≤ s.size ∧ Hid (wr.heap[G]? = some (.stringIter s p)) ∧ G < wr.heap.size ∧ Hid (Below w.heap.size w wr) ∧ Hid (ofN letterR s.data.toList = p + ofN letterR (s.data.toList.drop p)))
    (fun wr => s.size - wr.iterPos G)
  case atStart => exact ⟨0, Nat.zero_le _, HIT, by omega, HB0, Lib.hid (by simp)⟩
  case round =>
    obtain ⟨p, hp, hit, hgs, hbr, hpg⟩ := hrel
    by_cases hlt : p < s.size
    · obtain ⟨r, hr⟩ : ∃ r, r = (Utf8.decode s p).1 := ⟨_, rfl⟩
      obtain ⟨d, hd⟩ : ∃ d, d = (Utf8.decode s p).2 := ⟨_, rfl⟩
      have hnx := fun ty => Lib.run_next_any_at (P := Tryd.prog) wr G s p ty hit.out hlt
      rw [← hr, ← hd] at hnx
      have hpos := Go.iterPos_of hit.out
      have hw := Lib.width_pos s p
      rw [← hd] at hw
      have hit2 := Lib.iterAt_heap wr G s p (p + d) hit.out
      have hb2 := Lib.below_iterAt hbr.out hGw s (p + d)
      have hpos2 := Go.iterPos_of hit2
      have hsz2 : (wr.iterAt G s (p + d)).heap.size = wr.heap.size := by simp [World.iterAt]
      have hnel : s.data.toList.drop p ≠ [] := drop_ne (by rw [HL.out]; exact hlt)
      have hdl := decodeL_drop s p
      have hr2 : (decodeL (s.data.toList.drop p)).1 = r := by rw [hdl, hr]
      have hd2 : (decodeL (s.data.toList.drop p)).2 = d := by rw [hdl, hd]
      have hpd : p + d ≤ s.size := by
        have := decodeL_le _ hnel
        rw [hd2, List.length_drop, HL.out] at this
        omega
      have hr32 : r ≤ 1114111 := by rw [hr]; exact Lib.rune_le s p
      have HR := Lib.hid hr2
      have HD := Lib.hid hd2
      have HPOS := Lib.hid hpos
      have HNE := Lib.hid hnel
      clear hr hd hpos hdl hr2 hd2 hnel
      generalize wr.iterAt G s (p + d) = w3 at hnx hit2 hb2 hpos2 hsz2
      have HIT2 := Lib.hid hit2
      have HB2 := Lib.hid hb2
      have HPOS2 := Lib.hid hpos2
      clear hit2 hb2 hpos2
      by_cases h65 : r = 65533
      · have e1 : ((r : Int) == 65533) = true := by rw [h65]; decide
        have HRES := Lib.hid (show ofN letterR s.data.toList = p by rw [hpg.out, ofN_stop (.inr (.inl (by rw [HR.out, h65])))]; omega)
        clear h65
        go_wp2
        go_ret
        exact ⟨ret_int (by rw [HRES.out]), HB2.out⟩
      · have e1 : ((r : Int) == 65533) = false := by rw [beq_eq_false_iff_ne]; omega
        have hstr := rune_str HNE.out (by rw [HR.out]; exact h65)
        rw [HR.out] at hstr
        have hnm : nameP (Utf8.encode (r : Int)).data.toList = letterR r := by rw [hstr, ← name_eq, name_rune HNE.out, HR.out]
        have hdg : dgS (Utf8.encode (r : Int)) = digitR r := by rw [dgS_of HNE.out (by rw [hstr]), HR.out]
        have hes : (Utf8.encode (r : Int)).size ≤ 4 := encode_size_le _
        obtain ⟨t, ht⟩ : ∃ t, letterR r = t := ⟨_, rfl⟩
        have HCALL := Lib.hid (letter_calls r t w3 (HT.out.below HB2.out) (by rw [hnm]; exact ht) hes)
        have HH := Lib.hid h65
        have HTV := Lib.hid ht
        clear hstr hnm hdg h65 ht hes
        cases t with
        | true =>
          have HNXT := Lib.hid (show ofN letterR s.data.toList = (p + d) + ofN letterR (s.data.toList.drop (p + d)) by
            rw [hpg.out, ofN_go HNE.out (by rw [HR.out]; exact HH.out) (by rw [HR.out]; exact HTV.out), List.drop_drop, HD.out, Nat.add_assoc])
          go_wp2_with (go_at_call 27; refine HCALL.out.mono ?_; rintro e w4 ⟨rfl, hb4⟩)
          go_roundw
          case rel => exact ⟨p + d, hpd, Lib.hid ((hb4.block G (by omega)).trans HIT2.out), by have := hb4.size; omega, Lib.hid (below_step HB2.out hb4), HNXT⟩
          case measure =>
            rw [HPOS.out, Go.iterPos_of ((hb4.block G (by omega)).trans HIT2.out)]
            omega
        | false =>
          have HRES := Lib.hid (show ofN letterR s.data.toList = p by rw [hpg.out, ofN_stop (.inr (.inr (by rw [HR.out]; exact HTV.out)))]; omega)
          go_wp2_with (go_at_call 27; refine HCALL.out.mono ?_; rintro e w4 ⟨rfl, hb4⟩)
          go_ret
          exact ⟨ret_int (by rw [HRES.out]), below_step HB2.out hb4⟩
    · have HRES := Lib.hid (show ofN letterR s.data.toList = s.size by
        rw [hpg.out, show s.data.toList.drop p = [] from List.drop_eq_nil_iff.2 (by rw [HL.out]; omega), ofN_nil]
        omega)
      have hend := fun ty => Lib.run_next_end_at (P := Tryd.prog) wr G s p ty hit.out (by omega)
      go_wp2
      go_ret
      exact ⟨ret_int (by rw [HRES.out]), hbr.out⟩
set_option maxHeartbeats 800000 in
theorem of_digit (s : ByteArray) (w : World) (hT : Tbx w) :
    Calls Tryd.prog 26 #[.string s, .func (.func 29) #[] #[]] w fun e w' => e = .returned (.int .i64 (ofN digitR s.data.toList)) ∧ Below w.heap.size w w' := by
  have HT := Lib.hid hT
  clear hT
  go_enter Tryd.func26, Tryd.ntmps26
  go_wp2_with fail
  obtain ⟨G, hG⟩ : ∃ G, G = w.heap.size := ⟨_, rfl⟩
  have hit0 : (w.iter s 0).heap[G]? = some (.stringIter s 0) := by rw [hG]; exact World.iter_heap w s 0
  have hb0 : Below w.heap.size w (w.iter s 0) := below_alloc (Below.refl _ _) _
  have hGw : w.heap.size ≤ G := by omega
  have hsw : G < (w.iter s 0).heap.size := (Array.getElem?_eq_some_iff.1 hit0).1
  rw [← hG]
  generalize w.iter s 0 = w2 at hit0 hb0 hsw ⊢
  have HIT := Lib.hid hit0
  have HB0 := Lib.hid hb0
  have HG := Lib.hid hG
  have hl : s.data.toList.length = s.size := by simp
  have HL := Lib.hid hl
  clear hit0 hb0 hG hl
  go_loopw [] (fun wr => ∃ p : Nat, p ≤ s.size ∧ Hid (wr.heap[G]? = some (.stringIter s p)) ∧ G < wr.heap.size ∧ Hid (Below w.heap.size w wr) ∧ Hid (ofN digitR s.data.toList = p + ofN digitR (s.data.toList.drop p)))
    (fun wr => s.size - wr.iterPos G)
  case atStart => exact ⟨0, Nat.zero_le _, HIT, by omega, HB0, Lib.hid (by simp)⟩
  case round =>
    obtain ⟨p, hp, hit, hgs, hbr, hpg⟩ := hrel
    by_cases hlt : p < s.size
    · obtain ⟨r, hr⟩ : ∃ r, r = (Utf8.decode s p).1 := ⟨_, rfl⟩
      obtain ⟨d, hd⟩ : ∃ d, d = (Utf8.decode s p).2 := ⟨_, rfl⟩
      have hnx := fun ty => Lib.run_next_any_at (P := Tryd.prog) wr G s p ty hit.out hlt
      rw [← hr, ← hd] at hnx
      have hpos := Go.iterPos_of hit.out
      have hw := Lib.width_pos s p
      rw [← hd] at hw
      have hit2 := Lib.iterAt_heap wr G s p (p + d) hit.out
      have hb2 := Lib.below_iterAt hbr.out hGw s (p + d)
      have hpos2 := Go.iterPos_of hit2
      have hsz2 : (wr.iterAt G s (p + d)).heap.size = wr.heap.size := by simp [World.iterAt]
      have hnel : s.data.toList.drop p ≠ [] := drop_ne (by rw [HL.out]; exact hlt)
      have hdl := decodeL_drop s p
      have hr2 : (decodeL (s.data.toList.drop p)).1 = r := by rw [hdl, hr]
      have hd2 : (decodeL (s.data.toList.drop p)).2 = d := by rw [hdl, hd]
      have hpd : p + d ≤ s.size := by
        have := decodeL_le _ hnel
        rw [hd2, List.length_drop, HL.out] at this
        omega
      have hr32 : r ≤ 1114111 := by rw [hr]; exact Lib.rune_le s p
      have HR := Lib.hid hr2
      have HD := Lib.hid hd2
      have HPOS := Lib.hid hpos
      have HNE := Lib.hid hnel
      clear hr hd hpos hdl hr2 hd2 hnel
      generalize wr.iterAt G s (p + d) = w3 at hnx hit2 hb2 hpos2 hsz2
      have HIT2 := Lib.hid hit2
      have HB2 := Lib.hid hb2
      have HPOS2 := Lib.hid hpos2
      clear hit2 hb2 hpos2
      by_cases h65 : r = 65533
      · have e1 : ((r : Int) == 65533) = true := by rw [h65]; decide
        have HRES := Lib.hid (show ofN digitR s.data.toList = p by rw [hpg.out, ofN_stop (.inr (.inl (by rw [HR.out, h65])))]; omega)
        clear h65
        go_wp2
        go_ret
        exact ⟨ret_int (by rw [HRES.out]), HB2.out⟩
      · have e1 : ((r : Int) == 65533) = false := by rw [beq_eq_false_iff_ne]; omega
        have hstr := rune_str HNE.out (by rw [HR.out]; exact h65)
        rw [HR.out] at hstr
        have hnm : nameP (Utf8.encode (r : Int)).data.toList = letterR r := by rw [hstr, ← name_eq, name_rune HNE.out, HR.out]
        have hdg : dgS (Utf8.encode (r : Int)) = digitR r := by rw [dgS_of HNE.out (by rw [hstr]), HR.out]
        have hes : (Utf8.encode (r : Int)).size ≤ 4 := encode_size_le _
        obtain ⟨t, ht⟩ : ∃ t, digitR r = t := ⟨_, rfl⟩
        have HCALL := Lib.hid (digit_calls _ t w3 (by rw [hdg]; exact ht))
        have HH := Lib.hid h65
        have HTV := Lib.hid ht
        clear hstr hnm hdg h65 ht hes
        cases t with
        | true =>
          have HNXT := Lib.hid (show ofN digitR s.data.toList = (p + d) + ofN digitR (s.data.toList.drop (p + d)) by
            rw [hpg.out, ofN_go HNE.out (by rw [HR.out]; exact HH.out) (by rw [HR.out]; exact HTV.out), List.drop_drop, HD.out, Nat.add_assoc])
          go_wp2_with (go_at_call 29; refine HCALL.out.mono ?_; rintro e w4 ⟨rfl, hb4⟩)
          go_roundw
          case rel => exact ⟨p + d, hpd, Lib.hid ((hb4.block G (by omega)).trans HIT2.out), by have := hb4.size; omega, Lib.hid (below_step HB2.out hb4), HNXT⟩
          case measure =>
            rw [HPOS.out, Go.iterPos_of ((hb4.block G (by omega)).trans HIT2.out)]
            omega
        | false =>
          have HRES := Lib.hid (show ofN digitR s.data.toList = p by rw [hpg.out, ofN_stop (.inr (.inr (by rw [HR.out]; exact HTV.out)))]; omega)
          go_wp2_with (go_at_call 29; refine HCALL.out.mono ?_; rintro e w4 ⟨rfl, hb4⟩)
          go_ret
          exact ⟨ret_int (by rw [HRES.out]), below_step HB2.out hb4⟩
    · have HRES := Lib.hid (show ofN digitR s.data.toList = s.size by
        rw [hpg.out, show s.data.toList.drop p = [] from List.drop_eq_nil_iff.2 (by rw [HL.out]; omega), ofN_nil]
        omega)
      have hend := fun ty => Lib.run_next_end_at (P := Tryd.prog) wr G s p ty hit.out (by omega)
      go_wp2
      go_ret
      exact ⟨ret_int (by rw [HRES.out]), hbr.out⟩
set_option maxHeartbeats 800000 in
theorem of_word (s : ByteArray) (w : World) (hT : Tbx w) :
    Calls Tryd.prog 26 #[.string s, .func (.func 28) #[] #[]] w fun e w' => e = .returned (.int .i64 (ofN wordP s.data.toList)) ∧ Below w.heap.size w w' := by
  have HT := Lib.hid hT
  clear hT
  go_enter Tryd.func26, Tryd.ntmps26
  go_wp2_with fail
  obtain ⟨G, hG⟩ : ∃ G, G = w.heap.size := ⟨_, rfl⟩
  have hit0 : (w.iter s 0).heap[G]? = some (.stringIter s 0) := by rw [hG]; exact World.iter_heap w s 0
  have hb0 : Below w.heap.size w (w.iter s 0) := below_alloc (Below.refl _ _) _
  have hGw : w.heap.size ≤ G := by omega
  have hsw : G < (w.iter s 0).heap.size := (Array.getElem?_eq_some_iff.1 hit0).1
  rw [← hG]
  generalize w.iter s 0 = w2 at hit0 hb0 hsw ⊢
  have HIT := Lib.hid hit0
  have HB0 := Lib.hid hb0
  have HG := Lib.hid hG
  have hl : s.data.toList.length = s.size := by simp
  have HL := Lib.hid hl
  clear hit0 hb0 hG hl
  go_loopw [] (fun wr => ∃ p : Nat, p ≤ s.size ∧ Hid (wr.heap[G]? = some (.stringIter s p)) ∧ G < wr.heap.size ∧ Hid (Below w.heap.size w wr) ∧ Hid (ofN wordP s.data.toList = p + ofN wordP (s.data.toList.drop p)))
    (fun wr => s.size - wr.iterPos G)
  case atStart => exact ⟨0, Nat.zero_le _, HIT, by omega, HB0, Lib.hid (by simp)⟩
  case round =>
    obtain ⟨p, hp, hit, hgs, hbr, hpg⟩ := hrel
    by_cases hlt : p < s.size
    · obtain ⟨r, hr⟩ : ∃ r, r = (Utf8.decode s p).1 := ⟨_, rfl⟩
      obtain ⟨d, hd⟩ : ∃ d, d = (Utf8.decode s p).2 := ⟨_, rfl⟩
      have hnx := fun ty => Lib.run_next_any_at (P := Tryd.prog) wr G s p ty hit.out hlt
      rw [← hr, ← hd] at hnx
      have hpos := Go.iterPos_of hit.out
      have hw := Lib.width_pos s p
      rw [← hd] at hw
      have hit2 := Lib.iterAt_heap wr G s p (p + d) hit.out
      have hb2 := Lib.below_iterAt hbr.out hGw s (p + d)
      have hpos2 := Go.iterPos_of hit2
      have hsz2 : (wr.iterAt G s (p + d)).heap.size = wr.heap.size := by simp [World.iterAt]
      have hnel : s.data.toList.drop p ≠ [] := drop_ne (by rw [HL.out]; exact hlt)
      have hdl := decodeL_drop s p
      have hr2 : (decodeL (s.data.toList.drop p)).1 = r := by rw [hdl, hr]
      have hd2 : (decodeL (s.data.toList.drop p)).2 = d := by rw [hdl, hd]
      have hpd : p + d ≤ s.size := by
        have := decodeL_le _ hnel
        rw [hd2, List.length_drop, HL.out] at this
        omega
      have hr32 : r ≤ 1114111 := by rw [hr]; exact Lib.rune_le s p
      have HR := Lib.hid hr2
      have HD := Lib.hid hd2
      have HPOS := Lib.hid hpos
      have HNE := Lib.hid hnel
      clear hr hd hpos hdl hr2 hd2 hnel
      generalize wr.iterAt G s (p + d) = w3 at hnx hit2 hb2 hpos2 hsz2
      have HIT2 := Lib.hid hit2
      have HB2 := Lib.hid hb2
      have HPOS2 := Lib.hid hpos2
      clear hit2 hb2 hpos2
      by_cases h65 : r = 65533
      · have e1 : ((r : Int) == 65533) = true := by rw [h65]; decide
        have HRES := Lib.hid (show ofN wordP s.data.toList = p by rw [hpg.out, ofN_stop (.inr (.inl (by rw [HR.out, h65])))]; omega)
        clear h65
        go_wp2
        go_ret
        exact ⟨ret_int (by rw [HRES.out]), HB2.out⟩
      · have e1 : ((r : Int) == 65533) = false := by rw [beq_eq_false_iff_ne]; omega
        have hstr := rune_str HNE.out (by rw [HR.out]; exact h65)
        rw [HR.out] at hstr
        have hnm : nameP (Utf8.encode (r : Int)).data.toList = letterR r := by rw [hstr, ← name_eq, name_rune HNE.out, HR.out]
        have hdg : dgS (Utf8.encode (r : Int)) = digitR r := by rw [dgS_of HNE.out (by rw [hstr]), HR.out]
        have hes : (Utf8.encode (r : Int)).size ≤ 4 := encode_size_le _
        obtain ⟨t, ht⟩ : ∃ t, wordP r = t := ⟨_, rfl⟩
        have HCALL := Lib.hid (word1_calls r _ _ t w3 (HT.out.below HB2.out) hnm hdg ht hes)
        have HH := Lib.hid h65
        have HTV := Lib.hid ht
        clear hstr hnm hdg h65 ht hes
        cases t with
        | true =>
          have HNXT := Lib.hid (show ofN wordP s.data.toList = (p + d) + ofN wordP (s.data.toList.drop (p + d)) by
            rw [hpg.out, ofN_go HNE.out (by rw [HR.out]; exact HH.out) (by rw [HR.out]; exact HTV.out), List.drop_drop, HD.out, Nat.add_assoc])
          go_wp2_with (go_at_call 28; refine HCALL.out.mono ?_; rintro e w4 ⟨rfl, hb4⟩)
          go_roundw
          case rel => exact ⟨p + d, hpd, Lib.hid ((hb4.block G (by omega)).trans HIT2.out), by have := hb4.size; omega, Lib.hid (below_step HB2.out hb4), HNXT⟩
          case measure =>
            rw [HPOS.out, Go.iterPos_of ((hb4.block G (by omega)).trans HIT2.out)]
            omega
        | false =>
          have HRES := Lib.hid (show ofN wordP s.data.toList = p by rw [hpg.out, ofN_stop (.inr (.inr (by rw [HR.out]; exact HTV.out)))]; omega)
          go_wp2_with (go_at_call 28; refine HCALL.out.mono ?_; rintro e w4 ⟨rfl, hb4⟩)
          go_ret
          exact ⟨ret_int (by rw [HRES.out]), below_step HB2.out hb4⟩
    · have HRES := Lib.hid (show ofN wordP s.data.toList = s.size by
        rw [hpg.out, show s.data.toList.drop p = [] from List.drop_eq_nil_iff.2 (by rw [HL.out]; omega), ofN_nil]
        omega)
      have hend := fun ty => Lib.run_next_end_at (P := Tryd.prog) wr G s p ty hit.out (by omega)
      go_wp2
      go_ret
      exact ⟨ret_int (by rw [HRES.out]), hbr.out⟩
end Go.Proofs.YtfammikhejjjcaaDoor.Lex
