/- The law palisadelaw05.LexAgain answers true at every text. Conditions: what is laid. -/
import Derived.Test.YtfammikhejjjcaaDoorLawFault
namespace Go.Proofs.YtfammikhejjjcaaDoor.LexSpec
open Go Go.Lib Go.Proofs.YtfammikhejjjcaaDoor.LatSpec Go.Proofs.YtfammikhejjjcaaDoor.Kinds
theorem joinT_app : ∀ (xs ys : List T), joinT (xs ++ ys) = joinT xs ++ joinT ys
  | [], ys => rfl
  | x :: xs, ys => by simp [joinT, joinT_app xs ys]
theorem joinT_len {l l' : L} {a a' : Nat} {pre : List T} (h : Run l a l' a' pre) : (joinT pre).length ≤ (a' - a) + pre.length := by
  induction h with
  | nil l a => simp [joinT]
  | @skip l l' a a' k pre hs h ih => have := h.at_le.1; omega
  | @tok l l' a a' t pre hne hs hn h ih =>
    have h1 := h.at_le.1
    have hp := next_pos hn
    have hs := mkT_size (a := a) hp.2
    have : (mkT t l a).f1.data.toList.length = t.m := by rw [← hs]; simp
    rw [joinT, List.length_append, List.length_cons, this, List.length_cons]
    omega
theorem core_getD {xs ys : List T} (h : ys.map core = xs.map core) (i : Nat) (hi : i < xs.length) : (xs.getD i z0).f0 = (ys.getD i z0).f0 ∧ (xs.getD i z0).f1 = (ys.getD i z0).f1 ∧ (xs.getD i z0).f2 = (ys.getD i z0).f2 := by
  have hl : ys.length = xs.length := by simpa using congrArg List.length h
  have h1 := congrArg (·[i]?) h
  simp only [List.getElem?_map] at h1
  rw [List.getElem?_eq_getElem (by omega), List.getElem?_eq_getElem hi] at h1
  simp only [Option.map_some, Option.some.injEq, core, Prod.mk.injEq] at h1
  rw [List.getD_eq_getElem?_getD, List.getD_eq_getElem?_getD, List.getElem?_eq_getElem hi, List.getElem?_eq_getElem (show i < ys.length by omega)]
  exact ⟨h1.1.symm, h1.2.1.symm, h1.2.2.symm⟩
end Go.Proofs.YtfammikhejjjcaaDoor.LexSpec
namespace Go.Proofs.YtfammikhejjjcaaDoor.Lex
set_option linter.unusedVariables false
set_option linter.unusedSimpArgs false
open Go Go.Lib Go.RowKit Go.Proofs.YtfammikhejjjcaaDoorW.PrintWords Go.Proofs.YtfammikhejjjcaaDoor.Aux Go.Proofs.YtfammikhejjjcaaDoor.LatSpec Go.Proofs.YtfammikhejjjcaaDoor.LexSpec Go.Proofs.YtfammikhejjjcaaDoor.Kinds
/-- The words, each with a blank behind it, as a text. -/
def txt (ts : List T) : ByteArray := ⟨(joinT ts).toArray⟩
theorem txt_list (ts : List T) : (txt ts).data.toList = joinT ts := by simp [txt]
theorem txt_size (ts : List T) : (txt ts).size = (joinT ts).length := by rw [ba_size, txt_list]
theorem txt_step {ts : List T} {k : Nat} (h : k < ts.length) : txt (ts.take k) ++ ((ts.getD k zT).f1 ++ ⟨#[32]⟩) = txt (ts.take (k + 1)) := by
  apply ba_ext
  rw [take_getD h, txt_list, joinT_app]
  simp [joinT, txt_list]
set_option maxRecDepth 100000 in
set_option maxHeartbeats 3200000 in
theorem again_calls (s : ByteArray) (w : World) (hT : Tbx w) : Calls Tryd.prog 6 #[.string s] w fun e w' => e = .returned (.bool true) ∧ Below w.heap.size w w' := by
  have HA := Lib.hid (awake_calls w hT)
  have HT := Lib.hid hT
  clear hT
  by_cases hbig : 20000 < s.size
  · go_enter Tryd.func6, Tryd.ntmps6
    go_wp2_with fail
    refine HA.out.mono ?_
    rintro e w1 ⟨rfl, hb1⟩
    have HA1 := Lib.hid (awake_calls w1 (HT.out.below hb1))
    go_wp2_with (go_at_call 9; refine HA1.out.mono ?_; rintro e w2 ⟨rfl, hb2⟩)
    go_ret
    exact ⟨rfl, below_step hb1 hb2⟩
  · obtain ⟨ts, h1⟩ : ∃ ts, resL (readR s.data.toList) = ts := ⟨_, rfl⟩
    obtain ⟨a, h2⟩ : ∃ a, resA (readR s.data.toList) = a := ⟨_, rfl⟩
    obtain ⟨er, h3⟩ : ∃ a, resE (readR s.data.toList) = a := ⟨_, rfl⟩
    have HP := Lib.hid (fun W (hW : Tbx W) => read_parts s ts a er W (by omega) hW h1 h2 h3)
    have hn : ts.length ≤ 2000 := by rw [← h1]; exact readR_len _
    go_enter Tryd.func6, Tryd.ntmps6
    go_wp2_with fail
    refine HA.out.mono ?_
    rintro e w1 ⟨rfl, hb1⟩
    have HB1 := Lib.hid hb1
    have HC := Lib.hid (HP.out w1 (HT.out.below hb1))
    clear hb1
    by_cases he : er = 0
    · subst he
      obtain ⟨hl8, hok⟩ := read_ok h3
      rw [h1] at hok
      obtain ⟨hR, _⟩ := rd_run _ _ 0 0 (Nat.le_refl _) ts hok
      have hlen := joinT_len hR
      obtain ⟨us, q1, q2⟩ := again_rd ts 0 0 hR.wd (by omega)
      have hle : ∀ k, (txt (ts.take k)).size ≤ 20000 := fun k => by
        have e : joinT ts = joinT (ts.take k) ++ joinT (ts.drop k) := by rw [← joinT_app, List.take_append_drop]
        have := congrArg List.length e
        rw [List.length_append] at this
        rw [txt_size]
        omega
      have HLE := Lib.hid hle
      have HRD := Lib.hid q1
      have HCO := Lib.hid q2
      clear h1 h2 h3 hl8 hok hR hlen q1 q2 hle
      go_wp2_with fail
      refine HC.out.mono ?_
      rintro e w2 ⟨A, c, rfl, hC2, hb2⟩
      have HB2 := Lib.hid (below_step HB1.out hb2)
      have HC2 := Lib.hid hC2
      clear hb2 hC2
      go_wp2_with fail
      go_loopg [6, 7] (ts.length) (fun g x i wr => ∃ (k : Nat) (tx : ByteArray), i = .int .i64 k ∧ k ≤ ts.length ∧ g = ts.length - k ∧ x = .string tx ∧ tx.size ≤ 20000 ∧ w2 = wr ∧ Hid (tx = txt (ts.take k)))
      case atStart => exact ⟨0, ⟨#[]⟩, rfl, Nat.zero_le _, rfl, rfl, by decide, rfl, Lib.hid rfl⟩
      case round =>
        obtain ⟨k, tx, rfl, hk, rfl, rfl, hts, rfl, htx⟩ := hrel
        by_cases hlt : k < ts.length
        · obtain ⟨ad, hA, a0, a1, a2, a3⟩ := elT HC2.out hlt
          subst hA
          have hst := txt_step hlt
          rw [← htx.out] at hst
          obtain ⟨x, hx⟩ : ∃ x, (ts.getD k zT).f1 = x := ⟨_, rfl⟩
          rw [hx] at a1 hst
          have hxs : x.size ≤ 20000 := by
            have h1 := HLE.out (k + 1)
            rw [← hst] at h1
            simp at h1
            omega
          have HST := Lib.hid hst
          have hns := HLE.out (k + 1)
          rw [← hst] at hns
          have HNS := Lib.hid hns
          clear a0 a2 a3 hx hst hns
          go_wp2
          go_roundg (ts.length - (k + 1))
          case measure => omega
          case rel => exact ⟨k + 1, tx ++ (x ++ ⟨#[32]⟩), by go_num, by omega, rfl, rfl, HNS.out, rfl, HST⟩
        · obtain rfl : k = ts.length := by omega
          have htl : tx.data.toList = joinT ts := by rw [htx.out, txt_list, List.take_length]
          have hsz : tx.size = (joinT ts).length := by rw [ba_size, htl]
          by_cases hb8 : 8192 < tx.size
          · have hrb : readR tx.data.toList = .error (0, 1) := by rw [readR, if_pos (by rw [htl]; omega)]
            have HP2 := Lib.hid (read_parts tx [] 0 1 w2 (by omega) (HT.out.below HB2.out) (by rw [hrb]; rfl) (by rw [hrb]; rfl) (by rw [hrb]; rfl))
            clear hrb htl hsz
            go_wp2_with fail
            refine HP2.out.mono ?_
            rintro e w3 ⟨A2, c2, rfl, _, hb3⟩
            go_wp2
            go_ret
            exact ⟨rfl, below_step HB2.out hb3⟩
          · obtain ⟨r1, r2, r3⟩ := read_rd (l := tx.data.toList) (by rw [htl]; omega) (by rw [htl]; exact HRD.out)
            have HP2 := Lib.hid (read_parts tx us 0 0 w2 (by omega) (HT.out.below HB2.out) r1 r2 r3)
            have hul : us.length = ts.length := by simpa using congrArg List.length HCO.out
            have HUL := Lib.hid hul
            clear r1 r2 r3 htl hsz hul
            go_wp2_with fail
            refine HP2.out.mono ?_
            rintro e w3 ⟨A2, c2, rfl, hC3, hb3⟩
            have HC3 := Lib.hid hC3
            have HB3 := Lib.hid (below_step HB2.out hb3)
            have HPL := Lib.hid (plain_parts ts _ c w3 (Kd.C_below HC2.out hb3) hn)
            clear hb3 hC3
            go_wp2_with fail
            refine HPL.out.mono ?_
            rintro e w4 ⟨A3, c3, rfl, hC4, hb4⟩
            have HC4 := Lib.hid hC4
            have HB4 := Lib.hid (below_step HB3.out hb4)
            have HPM := Lib.hid (plain_parts us A2 c2 w4 (Kd.C_below HC3.out hb4) (by have := HUL.out; omega))
            clear hb4 hC4
            go_wp2_with fail
            refine HPM.out.mono ?_
            rintro e w5 ⟨A4, c4, rfl, hC5, hb5⟩
            have HSM : Hid (Calls Tryd.prog 12 #[.slice A3 ts.length c3, .slice A4 us.length c4, .bool true] w5 fun e w' => e = .returned (.bool true) ∧ Below w5.heap.size w5 w') := Lib.hid (by
              have h := same_calls ts us A3 A4 c3 c4 true w5 (Kd.C_below HC4.out hb5) hC5 HUL.out (fun i hi => ⟨(core_getD HCO.out i hi).1, (core_getD HCO.out i hi).2.1, (core_getD HCO.out i hi).2.2, fun h => by cases h⟩)
              rw [HUL.out]
              exact h)
            have HB5 := Lib.hid (below_step HB4.out hb5)
            clear hb5 hC5
            go_wp2_with (go_at_call 12; refine HSM.out.mono ?_; rintro e w6 ⟨rfl, hb6⟩)
            go_ret
            exact ⟨rfl, below_step HB5.out hb6⟩
    · have en : (er != 0) = true := by rw [bne_iff_ne]; exact he
      clear h1 h2 h3 he
      go_wp2_with fail
      refine HC.out.mono ?_
      rintro e w2 ⟨A, c, rfl, _, hb2⟩
      go_wp2
      go_ret
      exact ⟨rfl, below_step HB1.out hb2⟩
end Go.Proofs.YtfammikhejjjcaaDoor.Lex
