/- The law palisadelaw05.LexReads answers true at every text. Conditions: what is laid. -/
import Derived.Test.YtfammikhejjjcaaDoorLexA
namespace Go.Proofs.YtfammikhejjjcaaDoor.Lex
set_option linter.unusedVariables false
set_option linter.unusedSimpArgs false
open Go Go.Lib Go.RowKit Go.Proofs.YtfammikhejjjcaaDoorW.PrintWords Go.Proofs.YtfammikhejjjcaaDoor.Aux Go.Proofs.YtfammikhejjjcaaDoor.LatSpec Go.Proofs.YtfammikhejjjcaaDoor.LexSpec Go.Proofs.YtfammikhejjjcaaDoor.Kinds
theorem rd_len : ∀ (n : Nat) (l : L) (at_ cnt : Nat), l.length ≤ n → cnt ≤ 2000 → (resL (rd l at_ cnt)).length + cnt ≤ 2000
  | _, [], at_, cnt, _, h => by rw [rd_nil]; simpa [resL] using h
  | 0, _ :: _, _, _, h, _ => by simp at h
  | n + 1, b :: t, at_, cnt, h, hc => by
    simp only [List.length_cons] at h
    cases hs : skip1 (b :: t) with
    | some k =>
      have := skip_pos hs
      rw [rd_skip hs]
      exact rd_len n _ _ _ (by simp only [List.length_drop, List.length_cons]; omega) hc
    | none =>
      cases hn : next (b :: t) with
      | none => rw [rd_bad (by simp) hs hn]; simpa [resL] using hc
      | some tk =>
        have := next_pos hn
        by_cases hc2 : 2000 ≤ cnt
        · rw [rd_full (by simp) hs hn _ hc2]; simpa [resL] using hc
        · rw [rd_tok (by simp) hs hn _ (by omega)]
          have ih := rd_len n ((b :: t).drop tk.m) (at_ + tk.m) (cnt + 1) (by simp only [List.length_drop, List.length_cons]; omega) (by omega)
          cases hr : rd ((b :: t).drop tk.m) (at_ + tk.m) (cnt + 1) with
          | ok ts =>
            rw [hr] at ih
            simp only [resL, appR, List.length_append, List.length_cons, List.length_nil] at ih ⊢
            omega
          | error e =>
            simp only [appR, resL, List.length_nil]
            omega
theorem readR_len (l : L) : (resL (readR l)).length ≤ 2000 := by
  rw [readR]
  split
  · simp [resL]
  · have := rd_len l.length l 0 0 (Nat.le_refl _) (by omega)
    omega
/-- Read, its list by its parts. -/
theorem read_parts (s : ByteArray) (ts : List T) (a : Nat) (er : Int) (w : World) (hs : s.size ≤ 281474976710656) (hT : Tbx w) (h1 : resL (readR s.data.toList) = ts) (h2 : resA (readR s.data.toList) = a) (h3 : resE (readR s.data.toList) = er) :
    Calls Tryd.prog 10 #[.string s] w fun e w' => ∃ A c, e = .returned (.tuple #[.slice A ts.length c, .int .i64 a, .int .i64 er]) ∧ kT.C w' A ts.length ts ∧ Below w.heap.size w w' := by
  refine (read_calls s w hs hT).mono ?_
  rintro e w' ⟨v, he, hR, hb⟩
  rw [h1] at hR
  rw [h2, h3] at he
  obtain ⟨A, c, rfl, _, hC⟩ := Kd.R_reads hR
  exact ⟨A, c, he, hC, hb⟩
theorem refread_parts (s : ByteArray) (ts : List T) (a : Nat) (er : Int) (w : World) (hs : s.size ≤ 281474976710656) (h1 : resL (readR s.data.toList) = ts) (h2 : resA (readR s.data.toList) = a) (h3 : resE (readR s.data.toList) = er) :
    Calls Tryd.prog 11 #[.string s] w fun e w' => ∃ A c, e = .returned (.tuple #[.slice A ts.length c, .int .i64 a, .int .i64 er]) ∧ kT.C w' A ts.length ts ∧ Below w.heap.size w w' := by
  refine (refread_calls s w hs).mono ?_
  rintro e w' ⟨v, he, hR, hb⟩
  rw [h1] at hR
  rw [h2, h3] at he
  obtain ⟨A, c, rfl, _, hC⟩ := Kd.R_reads hR
  exact ⟨A, c, he, hC, hb⟩
theorem plain_parts (ts : List T) (A : Option Addr) (c : Nat) (w : World) (h : kT.C w A ts.length ts) (hn : ts.length ≤ 2000) :
    Calls Tryd.prog 13 #[.slice A ts.length c] w fun e w' => ∃ A' c', e = .returned (.slice A' ts.length c') ∧ kT.C w' A' ts.length ts ∧ Below w.heap.size w w' := by
  refine (plain_calls ts A c w h hn).mono ?_
  rintro e w' ⟨v, he, hR, hb⟩
  obtain ⟨A', c', rfl, _, hC⟩ := Kd.R_reads hR
  exact ⟨A', c', he, hC, hb⟩
set_option maxRecDepth 100000 in
set_option maxHeartbeats 3200000 in
theorem reads_calls (s : ByteArray) (w : World) (hT : Tbx w) : Calls Tryd.prog 3 #[.string s] w fun e w' => e = .returned (.bool true) ∧ Below w.heap.size w w' := by
  have HA := Lib.hid (awake_calls w hT)
  have HT := Lib.hid hT
  clear hT
  by_cases hbig : 20000 < s.size
  · go_enter Tryd.func3, Tryd.ntmps3
    go_wp2_with fail
    refine HA.out.mono ?_
    rintro e w1 ⟨rfl, hb1⟩
    have HA1 := Lib.hid (awake_calls w1 (HT.out.below hb1))
    go_wp2_with (go_at_call 9; refine HA1.out.mono ?_; rintro e w2 ⟨rfl, hb2⟩)
    go_ret
    exact ⟨rfl, below_step hb1 hb2⟩
  · obtain ⟨ts, h1⟩ : ∃ ts, resL (readR s.data.toList) = ts := ⟨_, rfl⟩
    obtain ⟨a, h2⟩ : ∃ a, resA (readR s.data.toList) = a := ⟨_, rfl⟩
    obtain ⟨er, h3⟩ : ∃ a, resE (readR s.data.toList) = a := ⟨_, rfl⟩
    have hn : ts.length ≤ 2000 := by rw [← h1]; exact readR_len _
    have HP := Lib.hid (fun W (hW : Tbx W) => read_parts s ts a er W (by omega) hW h1 h2 h3)
    have HQ := Lib.hid (fun W => refread_parts s ts a er W (by omega) h1 h2 h3)
    have ea : ((a : Int) == (a : Int)) = true := by simp
    have ee : (er == er) = true := by simp
    clear h1 h2 h3
    go_enter Tryd.func3, Tryd.ntmps3
    go_wp2_with fail
    refine HA.out.mono ?_
    rintro e w1 ⟨rfl, hb1⟩
    have HB1 := Lib.hid hb1
    clear hb1
    go_wp2_with fail
    refine (HP.out w1 (HT.out.below HB1.out)).mono ?_
    rintro e w2 ⟨A, c, rfl, hC, hb2⟩
    have HC := Lib.hid hC
    have HB2 := Lib.hid (below_step HB1.out hb2)
    clear hb2 hC
    go_wp2_with fail
    refine (HQ.out w2).mono ?_
    rintro e w3 ⟨A2, c2, rfl, hC2, hb3⟩
    have HC2 := Lib.hid hC2
    have HB3 := Lib.hid (below_step HB2.out hb3)
    have HPL := Lib.hid (plain_parts ts A c w3 (Kd.C_below HC.out hb3) hn)
    clear hb3 hC2
    go_wp2_with fail
    refine HPL.out.mono ?_
    rintro e w4 ⟨A3, c3, rfl, hC3, hb4⟩
    have HSM := Lib.hid (same_calls ts ts A3 A2 c3 c2 false w4 hC3 (Kd.C_below HC2.out hb4) rfl (fun i _ => ⟨rfl, rfl, rfl, fun _ => rfl⟩))
    have HB4 := Lib.hid (below_step HB3.out hb4)
    clear hb4 hC3
    go_wp2_with (go_at_call 12; refine HSM.out.mono ?_; rintro e w5 ⟨rfl, hb5⟩)
    go_ret
    exact ⟨rfl, below_step HB4.out hb5⟩
end Go.Proofs.YtfammikhejjjcaaDoor.Lex
