/- The reference's Read at every text. No condition. -/
import Derived.Test.YtfammikhejjjcaaDoorLex7
namespace Go.Proofs.YtfammikhejjjcaaDoor.Lex
set_option linter.unusedVariables false
set_option linter.unusedSimpArgs false
open Go Go.Lib Go.RowKit Go.Proofs.YtfammikhejjjcaaDoorW.PrintWords Go.Proofs.YtfammikhejjjcaaDoor.Aux Go.Proofs.YtfammikhejjjcaaDoor.LatSpec Go.Proofs.YtfammikhejjjcaaDoor.LexSpec Go.Proofs.YtfammikhejjjcaaDoor.Kinds
theorem infoRTok : (Tryd.prog.info? 43).map (fun i => (i.zero, i.size, i.bytes)) = some (some (.agg #[.int .i64 0, .string ⟨#[]⟩, .int .i64 0, .int .i64 0]), 4, 40) := by kernel_rfl
theorem blank_calls (c : Int) (t : Bool) (w : World) (hc0 : 0 ≤ c) (hc1 : c ≤ 255) (h : decide (c = 32 ∨ c = 9 ∨ c = 10) = t) :
    Calls Tryd.prog 21 #[.int .u8 c] w fun e w' => e = .returned (.bool t) ∧ w = w' := by
  subst h
  rcases (show c = 32 ∨ c = 9 ∨ c = 10 ∨ (c ≠ 32 ∧ c ≠ 9 ∧ c ≠ 10) from by omega) with rfl | rfl | rfl | ⟨h1, h2, h3⟩
  · go_enter Tryd.func21, Tryd.ntmps21
    go_wp2
    go_ret
    exact ⟨ret_bool (by decide), rfl⟩
  · go_enter Tryd.func21, Tryd.ntmps21
    go_wp2
    go_ret
    exact ⟨ret_bool (by decide), rfl⟩
  · go_enter Tryd.func21, Tryd.ntmps21
    go_wp2
    go_ret
    exact ⟨ret_bool (by decide), rfl⟩
  · have e1 : (c == 32) = false := beq_eq_false_iff_ne.2 h1
    have e2 : (c == 9) = false := beq_eq_false_iff_ne.2 h2
    have e3 : (c == 10) = false := beq_eq_false_iff_ne.2 h3
    go_enter Tryd.func21, Tryd.ntmps21
    go_wp2
    go_ret
    exact ⟨ret_bool (by simp [h1, h2, h3]), rfl⟩
theorem skip_remark2 {l : L} {b : UInt8} {t : L} (h : l = b :: t) (hb : (b.toNat : Int) = 35) : ∃ k : Nat, skip1 l = some k ∧ 1 ≤ k ∧ k ≤ l.length ∧ k = (l.takeWhile (· ≠ 10)).length := by
  have e : b = 35 := by rw [← UInt8.toNat_inj]; show _ = 35; omega
  subst h
  subst e
  have hs : skip1 (35 :: t) = some (1 + (t.takeWhile (· ≠ 10)).length) := by rw [skip1]; rfl
  have := skip_pos hs
  refine ⟨_, hs, this.1, this.2, ?_⟩
  rw [List.takeWhile_cons_of_pos (by decide), List.length_cons]
  omega
def RReadPost (l : L) (w : World) (e : Ending) (w' : World) : Prop := ∃ v, e = .returned (.tuple #[v, .int .i64 (resA (readR l)), .int .i64 (resE (readR l))]) ∧ kT.R 43 w' w.heap.size (fun _ => True) v (resL (readR l)) ∧ Below w.heap.size w w'
set_option maxRecDepth 100000 in
set_option maxHeartbeats 3200000 in
theorem refread_calls (s : ByteArray) (w : World) (hs : s.size ≤ 281474976710656) :
    Calls Tryd.prog 11 #[.string s] w (RReadPost s.data.toList w) := by
  have hl : s.data.toList.length = s.size := by simp
  have HL := Lib.hid hl
  obtain ⟨r, hr⟩ : ∃ r, readR s.data.toList = r := ⟨_, rfl⟩
  have HR := Lib.hid hr
  have HN0 := Lib.hid (show kT.R 43 w w.heap.size (fun _ => True) (.slice none 0 0) ([] : List T) from Kd.R_nil _ _ _ _ _)
  clear hl hr
  by_cases hbig : 8192 < s.size
  · have HE := Lib.hid (show r = .error (0, 1) by rw [← HR.out, readR, if_pos (by rw [HL.out]; exact hbig)])
    go_enter Tryd.func11, Tryd.ntmps11
    go_wp2
    go_ret3
    exact ⟨_, ret_read (HR.out.trans HE.out) rfl rfl, by rw [HR.out, HE.out]; exact HN0.out, Below.refl _ _⟩
  · have HE := Lib.hid (show r = rd s.data.toList 0 0 by rw [← HR.out, readR, if_neg (by rw [HL.out]; exact hbig)])
    go_enter Tryd.func11, Tryd.ntmps11
    go_wp2_with fail
    go_loopg [5, 6] (s.size) (fun g v i wr => ∃ (p : Nat) (acc : List T), i = .int .i64 p ∧ p ≤ s.size ∧ g = s.size - p ∧ acc.length ≤ 2000 ∧ Hid (r = appR acc (rd (s.data.toList.drop p) p acc.length)) ∧ Hid (Below w.heap.size w wr) ∧ Hid (kT.R 43 wr w.heap.size (fun _ => True) v acc))
    case atStart => exact ⟨0, [], rfl, Nat.zero_le _, rfl, by simp, Lib.hid (by rw [HE.out, appR_nil]; rfl), Lib.hid (Below.refl _ _), HN0⟩
    case round =>
      obtain ⟨p, acc, rfl, hp, rfl, hacc, hres, hbr, hR⟩ := hrel
      obtain ⟨A1, cc, rfl⟩ := Kd.R_slice hR.out
      by_cases hlt : p < s.size
      · obtain ⟨c, hc⟩ : ∃ c : Int, ∀ h : p < s.size, ((s[p]'h).toNat : Int) = c := ⟨((s[p]'hlt).toNat : Int), fun _ => rfl⟩
        have hc0 : 0 ≤ c := by have := hc hlt; omega
        have hc1 : c ≤ 255 := by have := hc hlt; have := (s[p]'hlt).toNat_lt; omega
        obtain ⟨b, t, hbt, hbc⟩ := drop_byte hlt hc
        have HBT := Lib.hid hbt
        have HBC := Lib.hid hbc
        have hne : s.data.toList.drop p ≠ [] := by rw [hbt]; simp
        have HNE := Lib.hid hne
        have hdl : (s.data.toList.drop p).length = s.size - p := by rw [List.length_drop, HL.out]
        have HDL := Lib.hid hdl
        clear hbt hbc hne hdl
        have HBL := Lib.hid (fun t h => blank_calls c t wr hc0 hc1 h)
        rcases (show (c = 32 ∨ c = 9 ∨ c = 10) ∨ c = 35 ∨ (c ≠ 32 ∧ c ≠ 9 ∧ c ≠ 10 ∧ c ≠ 35) from by omega) with hb3 | rfl | ⟨n1, n2, n3, n4⟩
        · have HRN := Lib.hid (show r = appR acc (rd (s.data.toList.drop (p + 1)) (p + 1) acc.length) by rw [hres.out, rd_skip (skip_blank HBT.out HBC.out hb3), List.drop_drop])
          have HB1 := Lib.hid (HBL.out true (by simp; exact hb3))
          clear hb3
          go_wp2_with (go_at_call 21; refine HB1.out.mono ?_; rintro e w2 ⟨rfl, rfl⟩)
          go_roundg (s.size - (p + 1))
          case measure => omega
          case rel => exact ⟨p + 1, acc, by go_num, by omega, rfl, hacc, HRN, hbr, hR⟩
        · obtain ⟨k, hk, hk1, hk2, hk3⟩ := skip_remark2 HBT.out HBC.out
          rw [HDL.out] at hk2
          have HB1 := Lib.hid (HBL.out false (by decide))
          have HRN := Lib.hid (show r = appR acc (rd (s.data.toList.drop (p + k)) (p + k) acc.length) by rw [hres.out, rd_skip hk, List.drop_drop])
          have HK3 := Lib.hid (show p + k = p + ((s.data.toList.drop p).takeWhile (· ≠ 10)).length by rw [hk3])
          have hpk : p + k ≤ s.size := by omega
          clear hk hk3
          go_wp2_with (go_at_call 21; refine HB1.out.mono ?_; rintro e w2 ⟨rfl, rfl⟩)
          go_loopg [6] (s.size - p) (fun g i wx => ∃ q : Nat, i = .int .i64 q ∧ p ≤ q ∧ q ≤ s.size ∧ g = s.size - q ∧ wr = wx ∧ Hid (p + k = q + ((s.data.toList.drop q).takeWhile (· ≠ 10)).length))
          case atStart => exact ⟨p, rfl, Nat.le_refl _, hp, rfl, rfl, HK3⟩
          case round =>
            obtain ⟨q, rfl, hpq, hq, rfl, rfl, hqk⟩ := hrel
            by_cases hlq : q < s.size
            · obtain ⟨d, hd⟩ : ∃ c : Int, ∀ h : q < s.size, ((s[q]'h).toNat : Int) = c := ⟨((s[q]'hlq).toNat : Int), fun _ => rfl⟩
              have hd0 : 0 ≤ d := by have := hd hlq; omega
              have hd1 : d ≤ 255 := by have := hd hlq; have := (s[q]'hlq).toNat_lt; omega
              obtain ⟨b2, t2, hbt2, hbc2⟩ := drop_byte hlq hd
              by_cases h10 : d = 10
              · have e10 : (d != 10) = false := by rw [h10]; rfl
                have hqe : q = p + k := by
                  rw [hqk.out, hbt2, List.takeWhile_cons_of_neg]
                  · simp
                  · have : b2 = 10 := by rw [← UInt8.toNat_inj]; show _ = 10; omega
                    simp [this]
                subst hqe
                clear hbt2 hbc2 h10
                go_wp2
                go_roundg (s.size - (p + k))
                case measure => omega
                case rel => exact ⟨p + k, acc, by go_num, by omega, rfl, hacc, HRN, hbr, hR⟩
              · have e10 : (d != 10) = true := by rw [bne_iff_ne]; exact h10
                have HQ := Lib.hid (show p + k = (q + 1) + ((s.data.toList.drop (q + 1)).takeWhile (· ≠ 10)).length by
                  have hb2 : b2 ≠ 10 := u8_ne (n := 10) (by omega) (by omega)
                  rw [hqk.out, hbt2, List.takeWhile_cons_of_pos (by simpa using hb2), List.length_cons]
                  have : s.data.toList.drop (q + 1) = t2 := by rw [← List.drop_drop, hbt2]; rfl
                  rw [this]
                  omega)
                clear hbt2 hbc2 h10
                go_wp2
                go_roundg (s.size - (q + 1))
                case measure => omega
                case rel => exact ⟨q + 1, by go_num, by omega, by omega, rfl, rfl, HQ⟩
            · have hqe : q = p + k := by
                rw [hqk.out, List.drop_eq_nil_iff.2 (by rw [HL.out]; omega)]
                rfl
              subst hqe
              go_wp2
              go_roundg (s.size - (p + k))
              case measure => omega
              case rel => exact ⟨p + k, acc, by go_num, by omega, rfl, hacc, HRN, hbr, hR⟩
        · have e35 : (c == 35) = false := beq_eq_false_iff_ne.2 n4
          have HSK := Lib.hid (skip_no HBT.out HBC.out n1 n2 n3 n4)
          have HB1 := Lib.hid (HBL.out false (by simp; omega))
          have HNC := Lib.hid (refnext_calls s p wr hlt hs)
          have HAC := Lib.hid hacc
          clear n1 n2 n3 n4 hacc
          cases hn : next (s.data.toList.drop p) with
          | none =>
            have HRES := Lib.hid (show r = .error (p, 2) by rw [hres.out, rd_bad HNE.out HSK.out hn]; rfl)
            have HNC2 := Lib.hid (HNC.out.mono (fun e w' h => show ∃ x : T, e = .returned (.tuple #[.agg #[.int .i64 x.f0, .string x.f1, .int .i64 x.f2, .int .i64 x.f3], .bool false]) ∧ Below wr.heap.size wr w' from by
              obtain ⟨x, h1, _, h3⟩ := h
              exact ⟨x, by rw [hn] at h1; exact h1, h3⟩))
            clear hn
            go_wp2_with (first | (go_at_call 21; refine HB1.out.mono ?_; rintro e w2 ⟨rfl, rfl⟩) | (go_at_call 22; refine HNC2.out.mono ?_; rintro e w4 ⟨x, rfl, hb4⟩; have HB4 := Lib.hid (below_step hbr.out hb4); clear hb4))
            go_ret3
            exact ⟨_, ret_read (HR.out.trans HRES.out) rfl rfl, by rw [HR.out, HRES.out]; exact Kd.R_nil _ _ _ _ _, below_alloc HB4.out _⟩
          | some tk =>
            have hm := next_pos hn
            rw [HDL.out] at hm
            obtain ⟨k, m, n⟩ := tk
            dsimp only at hm
            obtain ⟨tx, htx⟩ : ∃ tx, tx = (⟨((s.data.toList.drop p).take m).toArray⟩ : ByteArray) := ⟨_, rfl⟩
            have hts : tx.size = m := by
              rw [ba_size, htx]
              simp
              omega
            have HNC2 := Lib.hid (HNC.out.mono (fun e w' h => show e = .returned (.tuple #[.agg #[.int .i64 k, .string tx, .int .i64 n, .int .i64 p], .bool true]) ∧ Below wr.heap.size wr w' from by
              obtain ⟨x, h1, h2, h3⟩ := h
              have hx := h2 _ hn
              rw [hn] at h1
              refine ⟨?_, h3⟩
              rw [h1, hx, htx]
              rfl))
            by_cases hfull : acc.length = 2000
            · have ef : (2000 : Int) ≤ acc.length := by omega
              have HRES := Lib.hid (show r = .error (p, 7) by rw [hres.out, rd_full HNE.out HSK.out hn _ (by omega)]; rfl)
              clear hn hfull htx
              go_wp2_with (first | (go_at_call 21; refine HB1.out.mono ?_; rintro e w2 ⟨rfl, rfl⟩) | (go_at_call 22; refine HNC2.out.mono ?_; rintro e w4 ⟨rfl, hb4⟩; have HB4 := Lib.hid (below_step hbr.out hb4); clear hb4))
              go_ret3
              exact ⟨_, ret_read (HR.out.trans HRES.out) rfl rfl, by rw [HR.out, HRES.out]; exact Kd.R_nil _ _ _ _ _, below_alloc HB4.out _⟩
            · have HRN := Lib.hid (show r = appR (acc ++ [⟨k, tx, n, p⟩]) (rd (s.data.toList.drop (p + m)) (p + m) (acc ++ [(⟨k, tx, n, p⟩ : T)]).length) by
                rw [hres.out, rd_tok HNE.out HSK.out hn _ (by have := HAC.out; omega), appR_app, List.drop_drop, List.length_append, htx]
                rfl)
              have hacc2 : acc.length < 2000 := by have := HAC.out; omega
              have ef : ¬ ((2000 : Int) ≤ acc.length) := by omega
              clear hn hfull htx
              go_wp2_with (go_at_call 21; refine HB1.out.mono ?_; rintro e w2 ⟨rfl, rfl⟩)
              refine HNC2.out.mono ?_
              rintro e w4 ⟨rfl, hb4⟩
              have HB4 := Lib.hid (below_step hbr.out hb4)
              have HR4 := Lib.hid (Kd.R_below hR.out hb4)
              clear hb4
              have hsz4 := HB4.out.size
              go_wp2_with (at_builtin; (refine Kd.R_append kT (w0 := w) w.heap.size rfl (.tmp 51) (.tmp 53) 27 43 (.agg #[.int .i64 0, .string ⟨#[]⟩, .int .i64 0, .int .i64 0]) 40 rfl Tryd.underlying27 infoRTok rfl (by decide) (by omega) (.slice A1 acc.length cc) acc ⟨k, tx, n, p⟩ [.int .i64 k, .string tx, .int .i64 n, .int .i64 p] (fun _ => True) (fun _ => False) rfl (by rw [alloc_size']; rfl) (k36_mkM _ _ _ _) (fun _ hf => hf.elim) (fun _ _ => trivial) (Kd.R_alloc HR4.out _) (below_alloc HB4.out _) (by rw [alloc_size']; omega) (by omega) ?_); intro v1 w5 hR5 hb5 hg5 hat5; have HR5 := Lib.hid hR5; have HB5 := Lib.hid hb5; have bx := (hg5.block w4.heap.size (by rw [alloc_size']; omega) (fun e => absurd (Kd.R_lt HR4.out _ e.symm) (Nat.lt_irrefl _))).trans (blk_new w4 _); have b1 := (blk_cell bx 1).trans rfl; clear hR5 hb5 hg5 hat5 bx)
              go_roundg (s.size - (p + m))
              case measure => omega
              case rel => exact ⟨p + m, acc ++ [⟨k, tx, n, p⟩], by go_num, by omega, rfl, by rw [List.length_append]; show acc.length + 1 ≤ 2000; omega, HRN, HB5, HR5⟩
      · obtain rfl : p = s.size := by omega
        have HRES := Lib.hid (show r = .ok acc by
          rw [hres.out, List.drop_eq_nil_iff.2 (by rw [HL.out]; exact Nat.le_refl _), rd_nil]
          simp [appR])
        go_wp2
        go_ret3
        exact ⟨_, ret_read (HR.out.trans HRES.out) rfl rfl, by rw [HR.out, HRES.out]; exact hR.out, hbr.out⟩
end Go.Proofs.YtfammikhejjjcaaDoor.Lex
