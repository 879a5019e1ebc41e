/- lex.Read at every text. Conditions: what is laid. -/
import Derived.Test.YtfammikhejjjcaaDoorLex3
import Derived.Test.YtfammikhejjjcaaDoorLexRd
namespace Go.Proofs.YtfammikhejjjcaaDoor.Lex
set_option linter.unusedVariables false
set_option linter.unusedSimpArgs false
open Go Go.Lib Go.RowKit Go.Proofs.YtfammikhejjjcaaDoorW.PrintWords Go.Proofs.YtfammikhejjjcaaDoor.Aux Go.Proofs.YtfammikhejjjcaaDoor.LatSpec Go.Proofs.YtfammikhejjjcaaDoor.LexSpec Go.Proofs.YtfammikhejjjcaaDoor.Kinds
abbrev kT : Kd T := k36
theorem infoTok : (Tryd.prog.info? 36).map (fun i => (i.zero, i.size, i.bytes)) = some (some (.agg #[.int .i64 0, .string ⟨#[]⟩, .int .i64 0, .int .i64 0]), 4, 40) := by kernel_rfl
theorem next_k {l : L} {t : Tk} (h : next l = some t) : 1 ≤ t.k := by
  rw [next] at h
  split at h
  · rw [nextName] at h
    split at h
    · injection h with h
      subst h
      dsimp only
      split <;> decide
    · cases h
  · split at h
    · rw [nextNum] at h
      split at h
      · injection h with h
        subst h
        show (1 : Int) ≤ 3
        decide
      · cases h
    · rw [nextSign] at h
      split at h
      · injection h with h
        subst h
        show (1 : Int) ≤ 4
        decide
      · split at h
        · injection h with h
          subst h
          show (1 : Int) ≤ 4
          decide
        · cases h
theorem ib_tw (l : L) : ((l.takeWhile (· ≠ 10)).length : Int) = if indexByte l 10 < 0 then (l.length : Int) else indexByte l 10 := by
  induction l with
  | nil => simp [indexByte]
  | cons b t ih =>
    have hge := indexByte_ge t 10
    rw [indexByte]
    by_cases hb : b = 10
    · subst hb; simp
    · have h1 : (b == 10) = false := beq_eq_false_iff_ne.2 hb
      rw [h1]
      simp only [Bool.false_eq_true, if_false]
      rw [List.takeWhile_cons_of_pos (by simpa using hb), List.length_cons, List.length_cons]
      by_cases h2 : indexByte t 10 = -1
      · rw [h2] at ih ⊢
        simp at ih ⊢
        omega
      · have h3 : (indexByte t 10 == -1) = false := beq_eq_false_iff_ne.2 h2
        rw [h3]
        simp only [Bool.false_eq_true, if_false]
        rw [if_neg (by omega)] at ih
        rw [if_neg (by omega)]
        omega
theorem drop_byte {s : ByteArray} {p : Nat} {c : Int} (hlt : p < s.size) (hc : ∀ h : p < s.size, ((s[p]'h).toNat : Int) = c) : ∃ b t, s.data.toList.drop p = b :: t ∧ (b.toNat : Int) = c := by
  have hl : p < s.data.toList.length := by simpa using hlt
  exact ⟨_, _, List.drop_eq_getElem_cons hl, hc hlt⟩
theorem skip_blank {l : L} {b : UInt8} {t : L} {c : Int} (h : l = b :: t) (hb : (b.toNat : Int) = c) (hc : c = 32 ∨ c = 9 ∨ c = 10) : skip1 l = some 1 := by
  subst h
  rw [skip1, if_pos]
  rcases hc with hc | hc | hc
  · exact .inr (.inl (by rw [← UInt8.toNat_inj]; show _ = 32; omega))
  · exact .inr (.inr (by rw [← UInt8.toNat_inj]; show _ = 9; omega))
  · exact .inl (by rw [← UInt8.toNat_inj]; show _ = 10; omega)
theorem u8_ne {b : UInt8} {n : Nat} (hn : n < 256) (h : b.toNat ≠ n) : b ≠ UInt8.ofNat n := by
  rintro rfl
  exact h (by simp; omega)
theorem skip_remark {l : L} {b : UInt8} {t : L} (h : l = b :: t) (hb : (b.toNat : Int) = 35) : ∃ k : Nat, skip1 l = some k ∧ 1 ≤ k ∧ k ≤ l.length ∧ (k : Int) = if indexByte l 10 < 0 then (l.length : Int) else indexByte l 10 := by
  have e : b = 35 := by rw [← UInt8.toNat_inj]; show _ = 35; omega
  subst h
  subst e
  have hs : skip1 (35 :: t) = some (1 + (t.takeWhile (· ≠ 10)).length) := by rw [skip1]; rfl
  have := skip_pos hs
  refine ⟨_, hs, this.1, this.2, ?_⟩
  rw [← ib_tw, List.takeWhile_cons_of_pos (by decide), List.length_cons]
  omega
theorem skip_no {l : L} {b : UInt8} {t : L} {c : Int} (h : l = b :: t) (hb : (b.toNat : Int) = c) (h1 : c ≠ 32) (h2 : c ≠ 9) (h3 : c ≠ 10) (h4 : c ≠ 35) : skip1 l = none := by
  subst h
  have q1 : b ≠ 10 := u8_ne (n := 10) (by omega) (by omega)
  have q2 : b ≠ 32 := u8_ne (n := 32) (by omega) (by omega)
  have q3 : b ≠ 9 := u8_ne (n := 9) (by omega) (by omega)
  have q4 : b ≠ 35 := u8_ne (n := 35) (by omega) (by omega)
  rw [skip1, if_neg (by simp [q1, q2, q3]), if_neg q4]
theorem extN (s : ByteArray) (p : Nat) : (s.extract p s.size).data.toList = s.data.toList.drop p := by
  have hl : s.data.toList.length = s.size := by simp
  rw [ByteArray.data_extract, Array.toList_extract, List.extract_eq_take_drop, List.take_of_length_le]
  rw [List.length_drop, hl]
  omega
def ReadPost (l : L) (w : World) (e : Ending) (w' : World) : Prop := ∃ v, e = .returned (.tuple #[v, .int .i64 (resA (readR l)), .int .i64 (resE (readR l))]) ∧ kT.R 36 w' w.heap.size (fun _ => True) v (resL (readR l)) ∧ Below w.heap.size w w'
theorem ret_read {v : Value} {l : L} {a e : Int} {r : Res} (h : readR l = r) (ha : (resA r : Int) = a) (he : resE r = e) : Ending.returned (.tuple #[v, .int .i64 a, .int .i64 e]) = .returned (.tuple #[v, .int .i64 (resA (readR l)), .int .i64 (resE (readR l))]) := by rw [h, ha, he]
set_option maxRecDepth 100000 in
set_option maxHeartbeats 3200000 in
theorem read_calls (s : ByteArray) (w : World) (hs : s.size ≤ 281474976710656) (hT : Tbx w) :
    Calls Tryd.prog 10 #[.string s] w (ReadPost s.data.toList w) := by
  have hl : s.data.toList.length = s.size := by simp
  have HL := Lib.hid hl
  have HT := Lib.hid hT
  obtain ⟨r, hr⟩ : ∃ r, readR s.data.toList = r := ⟨_, rfl⟩
  have HR := Lib.hid hr
  have HN0 := Lib.hid (show kT.R 36 w w.heap.size (fun _ => True) (.slice none 0 0) ([] : List T) from Kd.R_nil _ _ _ _ _)
  clear hl hT hr
  by_cases hbig : 8192 < s.size
  · have HE := Lib.hid (show r = .error (0, 1) by rw [← HR.out, readR, if_pos (by rw [HL.out]; exact hbig)])
    go_enter Tryd.func10, Tryd.ntmps10
    go_wp2
    go_ret3
    exact ⟨_, ret_read (HR.out.trans HE.out) rfl rfl, by rw [HR.out, HE.out]; exact HN0.out, Below.refl _ _⟩
  · have HE := Lib.hid (show r = rd s.data.toList 0 0 by rw [← HR.out, readR, if_neg (by rw [HL.out]; exact hbig)])
    go_enter Tryd.func10, Tryd.ntmps10
    go_wp2_with fail
    go_loopg [5, 6] (s.size) (fun g v i wr => ∃ (p : Nat) (acc : List T), i = .int .i64 p ∧ p ≤ s.size ∧ g = s.size - p ∧ acc.length ≤ 2000 ∧ Hid (r = appR acc (rd (s.data.toList.drop p) p acc.length)) ∧ Hid (Below w.heap.size w wr) ∧ Hid (kT.R 36 wr w.heap.size (fun _ => True) v acc))
    case atStart => exact ⟨0, [], rfl, Nat.zero_le _, rfl, by simp, Lib.hid (by rw [HE.out, appR_nil]; rfl), Lib.hid (Below.refl _ _), HN0⟩
    case round =>
      obtain ⟨p, acc, rfl, hp, rfl, hacc, hres, hbr, hR⟩ := hrel
      obtain ⟨A1, cc, rfl⟩ := Kd.R_slice hR.out
      by_cases hlt : p < s.size
      · obtain ⟨c, hc⟩ : ∃ c : Int, ∀ h : p < s.size, ((s[p]'h).toNat : Int) = c := ⟨((s[p]'hlt).toNat : Int), fun _ => rfl⟩
        have hc0 : 0 ≤ c := by have := hc hlt; omega
        have hc1 : c ≤ 255 := by have := hc hlt; have := (s[p]'hlt).toNat_lt; omega
        obtain ⟨b, t, hbt, hbc⟩ := drop_byte hlt hc
        have HBT := Lib.hid hbt
        have HBC := Lib.hid hbc
        have hne : s.data.toList.drop p ≠ [] := by rw [hbt]; simp
        have HNE := Lib.hid hne
        have hdl : (s.data.toList.drop p).length = s.size - p := by rw [List.length_drop, HL.out]
        have HDL := Lib.hid hdl
        clear hbt hbc hne hdl
        rcases (show c = 32 ∨ c = 9 ∨ c = 10 ∨ c = 35 ∨ (c ≠ 32 ∧ c ≠ 9 ∧ c ≠ 10 ∧ c ≠ 35) from by omega) with rfl | rfl | rfl | rfl | ⟨n1, n2, n3, n4⟩
        · have HRN := Lib.hid (show r = appR acc (rd (s.data.toList.drop (p + 1)) (p + 1) acc.length) by rw [hres.out, rd_skip (skip_blank HBT.out HBC.out (by omega)), List.drop_drop])
          go_wp2
          go_roundg (s.size - (p + 1))
          case measure => omega
          case rel => exact ⟨p + 1, acc, by go_num, by omega, rfl, hacc, HRN, hbr, hR⟩
        · have HRN := Lib.hid (show r = appR acc (rd (s.data.toList.drop (p + 1)) (p + 1) acc.length) by rw [hres.out, rd_skip (skip_blank HBT.out HBC.out (by omega)), List.drop_drop])
          go_wp2
          go_roundg (s.size - (p + 1))
          case measure => omega
          case rel => exact ⟨p + 1, acc, by go_num, by omega, rfl, hacc, HRN, hbr, hR⟩
        · have HRN := Lib.hid (show r = appR acc (rd (s.data.toList.drop (p + 1)) (p + 1) acc.length) by rw [hres.out, rd_skip (skip_blank HBT.out HBC.out (by omega)), List.drop_drop])
          go_wp2
          go_roundg (s.size - (p + 1))
          case measure => omega
          case rel => exact ⟨p + 1, acc, by go_num, by omega, rfl, hacc, HRN, hbr, hR⟩
        · obtain ⟨k, hk, hk1, hk2, hk3⟩ := skip_remark HBT.out HBC.out
          rw [HDL.out] at hk2 hk3
          have hx := extN s p
          obtain ⟨ib, hib⟩ : ∃ i, Lib.indexByte (s.data.toList.drop p) 10 = i := ⟨_, rfl⟩
          rw [hib] at hk3
          have HIB := Lib.hid (Tryd.strings_IndexByte (s.extract p s.size) 10 wr)
          rw [hx, show ((10 : Int).toNat.toUInt8) = 10 from rfl, hib] at HIB
          have HRN := Lib.hid (show r = appR acc (rd (s.data.toList.drop (p + k)) (p + k) acc.length) by rw [hres.out, rd_skip hk, List.drop_drop])
          clear hk hx hib
          by_cases h0 : ib < 0
          · rw [if_pos h0] at hk3
            have hk4 : s.size - p = k := by omega
            go_wp2_with (go_at_call 19; refine HIB.out.mono ?_; rintro e w6 ⟨rfl, rfl⟩)
            go_roundg (s.size - (p + k))
            case measure => omega
            case rel => exact ⟨p + k, acc, by go_num, by omega, rfl, hacc, HRN, hbr, hR⟩
          · rw [if_neg h0] at hk3
            subst hk3
            go_wp2_with (go_at_call 19; refine HIB.out.mono ?_; rintro e w6 ⟨rfl, rfl⟩)
            go_roundg (s.size - (p + k))
            case measure => omega
            case rel => exact ⟨p + k, acc, by go_num, by omega, rfl, hacc, HRN, hbr, hR⟩
        · have e32 : (c == 32) = false := beq_eq_false_iff_ne.2 n1
          have e9 : (c == 9) = false := beq_eq_false_iff_ne.2 n2
          have e10 : (c == 10) = false := beq_eq_false_iff_ne.2 n3
          have e35 : (c == 35) = false := beq_eq_false_iff_ne.2 n4
          have HSK := Lib.hid (skip_no HBT.out HBC.out n1 n2 n3 n4)
          obtain ⟨x, hx⟩ : ∃ x, tokT (s.data.toList.drop p) = x := ⟨_, rfl⟩
          have hes : (s.extract p s.size).size = s.size - p := by
            have : (s.extract p s.size).size = (s.extract p s.size).data.toList.length := by simp
            rw [this, extN, HDL.out]
          have HWC := Lib.hid (word_calls (s.extract p s.size) x wr (by rw [extN]; exact hx) (by omega) (by omega) (HT.out.below hbr.out))
          have HX := Lib.hid hx
          have HAC := Lib.hid hacc
          clear n1 n2 n3 n4 hx hes hacc
          cases hn : next (s.data.toList.drop p) with
          | none =>
            have hx0 : x = ⟨0, ⟨#[]⟩, 0, 0⟩ := by rw [← HX.out, tok_none hn]
            subst hx0
            have HRES := Lib.hid (show r = .error (p, 2) by rw [hres.out, rd_bad HNE.out HSK.out hn]; rfl)
            clear hn
            go_wp2_with (go_at_call 20; refine HWC.out.mono ?_; rintro e w4 ⟨rfl, hb4⟩; have HB4 := Lib.hid (below_step hbr.out hb4); clear hb4)
            go_ret3
            exact ⟨_, ret_read (HR.out.trans HRES.out) rfl rfl, by rw [HR.out, HRES.out]; exact Kd.R_nil _ _ _ _ _, below_alloc HB4.out _⟩
          | some tk =>
            have hx0 : x = ⟨tk.k, ⟨((s.data.toList.drop p).take tk.m).toArray⟩, tk.n, 0⟩ := by rw [← HX.out, tok_some hn]
            obtain ⟨tx, htx⟩ : ∃ tx, tx = (⟨((s.data.toList.drop p).take tk.m).toArray⟩ : ByteArray) := ⟨_, rfl⟩
            rw [← htx] at hx0
            subst hx0
            have hm := next_pos hn
            rw [HDL.out] at hm
            have hts : tx.size = tk.m := by
              have : tx.size = tx.data.toList.length := by simp
              rw [this, htx]
              simp
              omega
            have hk1 := next_k hn
            obtain ⟨k, m, n⟩ := tk
            dsimp only at *
            have e0 : (k == 0) = false := by rw [beq_eq_false_iff_ne]; omega
            by_cases hfull : acc.length = 2000
            · have ef : ((acc.length : Int) == 2000) = true := by rw [hfull]; decide
              have HRES := Lib.hid (show r = .error (p, 7) by rw [hres.out, rd_full HNE.out HSK.out hn _ (by omega)]; rfl)
              clear hn hfull
              go_wp2_with (go_at_call 20; refine HWC.out.mono ?_; rintro e w4 ⟨rfl, hb4⟩; have HB4 := Lib.hid (below_step hbr.out hb4); clear hb4)
              go_ret3
              exact ⟨_, ret_read (HR.out.trans HRES.out) rfl rfl, by rw [HR.out, HRES.out]; exact Kd.R_nil _ _ _ _ _, below_alloc HB4.out _⟩
            · have ef : ((acc.length : Int) == 2000) = false := by rw [beq_eq_false_iff_ne]; omega
              have HRN := Lib.hid (show r = appR (acc ++ [⟨k, tx, n, p⟩]) (rd (s.data.toList.drop (p + m)) (p + m) (acc ++ [(⟨k, tx, n, p⟩ : T)]).length) by
                rw [hres.out, rd_tok HNE.out HSK.out hn _ (by have := HAC.out; omega), appR_app, List.drop_drop, List.length_append, htx]
                rfl)
              have hacc2 : acc.length < 2000 := by have := HAC.out; omega
              clear hn hfull htx
              go_wp2_with fail
              refine HWC.out.mono ?_
              rintro e w4 ⟨rfl, hb4⟩
              have HB4 := Lib.hid (below_step hbr.out hb4)
              have HR4 := Lib.hid (Kd.R_below hR.out hb4)
              clear hb4
              have hsz4 := HB4.out.size
              go_wp2_with (at_builtin; (refine Kd.R_append kT (w0 := w) w.heap.size rfl (.tmp 54) (.tmp 56) 23 36 (.agg #[.int .i64 0, .string ⟨#[]⟩, .int .i64 0, .int .i64 0]) 40 rfl Tryd.underlying23 infoTok rfl (by decide) (by omega) (.slice A1 acc.length cc) acc ⟨k, tx, n, p⟩ [.int .i64 k, .string tx, .int .i64 n, .int .i64 p] (fun _ => True) (fun _ => False) rfl (by rw [alloc_size']; rfl) (k36_mkM _ _ _ _) (fun _ hf => hf.elim) (fun _ _ => trivial) (Kd.R_alloc HR4.out _) (below_alloc HB4.out _) (by rw [alloc_size']; omega) (by omega) ?_); intro v1 w5 hR5 hb5 hg5 hat5; have HR5 := Lib.hid hR5; have HB5 := Lib.hid hb5; have bx := (hg5.block w4.heap.size (by rw [alloc_size']; omega) (fun e => absurd (Kd.R_lt HR4.out _ e.symm) (Nat.lt_irrefl _))).trans (blk_new w4 _); have b1 := (blk_cell bx 1).trans rfl; clear hR5 hb5 hg5 hat5 bx)
              go_roundg (s.size - (p + m))
              case measure => omega
              case rel => exact ⟨p + m, acc ++ [⟨k, tx, n, p⟩], by go_num, by omega, rfl, by rw [List.length_append]; show acc.length + 1 ≤ 2000; omega, HRN, HB5, HR5⟩
      · obtain rfl : p = s.size := by omega
        have HRES := Lib.hid (show r = .ok acc by
          rw [hres.out, List.drop_eq_nil_iff.2 (by rw [HL.out]; exact Nat.le_refl _), rd_nil]
          simp [appR])
        go_wp2
        go_ret3
        exact ⟨_, ret_read (HR.out.trans HRES.out) rfl rfl, by rw [HR.out, HRES.out]; exact hR.out, hbr.out⟩
end Go.Proofs.YtfammikhejjjcaaDoor.Lex
