/- The law palisadelaw05.LexFault answers true at every two texts. Conditions: what is laid. -/
import Derived.Test.YtfammikhejjjcaaDoorLawReads
import Derived.Test.YtfammikhejjjcaaDoorLexTexts
namespace Go.Proofs.YtfammikhejjjcaaDoor.Lex
set_option linter.unusedVariables false
set_option linter.unusedSimpArgs false
open Go Go.Lib Go.RowKit Go.Proofs.YtfammikhejjjcaaDoorW.PrintWords Go.Proofs.YtfammikhejjjcaaDoor.Aux Go.Proofs.YtfammikhejjjcaaDoor.LatSpec Go.Proofs.YtfammikhejjjcaaDoor.LexSpec Go.Proofs.YtfammikhejjjcaaDoor.Kinds
theorem read_fault {l : L} {a : Nat} (h2 : resA (readR l) = a) (h3 : resE (readR l) = 2) : l.length ≤ 8192 ∧ rd l 0 0 = .error (a, 2) := by
  by_cases hbig : 8192 < l.length
  · rw [readR, if_pos hbig] at h3
    simp [resE] at h3
  · refine ⟨by omega, ?_⟩
    rw [readR, if_neg hbig] at h2 h3
    cases hr : rd l 0 0 with
    | ok ts => rw [hr] at h3; simp [resE] at h3
    | error e =>
      rw [hr] at h2 h3
      obtain ⟨p, e⟩ := e
      simp only [resA, resE] at h2 h3
      rw [h2, h3]
theorem read_ok {l : L} (h3 : resE (readR l) = 0) : l.length ≤ 8192 ∧ rd l 0 0 = .ok (resL (readR l)) := by
  by_cases hbig : 8192 < l.length
  · rw [readR, if_pos hbig] at h3
    simp [resE] at h3
  · refine ⟨by omega, ?_⟩
    rw [readR, if_neg hbig] at h3 ⊢
    cases hr : rd l 0 0 with
    | ok ts => rfl
    | error e =>
      exfalso
      rw [hr] at h3
      obtain ⟨p, e⟩ := e
      obtain ⟨l', pre, _, _, _, _, h5⟩ := rd_fault l.length l 0 0 (Nat.le_refl _) (by omega) p e hr
      simp only [resE] at h3
      rcases h5 with ⟨h5, _⟩ | h5 <;> omega
theorem read_rd {l : L} {ts : List T} (hl : l.length ≤ 8192) (h : rd l 0 0 = .ok ts) : resL (readR l) = ts ∧ resA (readR l) = 0 ∧ resE (readR l) = 0 := by
  rw [readR, if_neg (by omega), h]
  exact ⟨rfl, rfl, rfl⟩
theorem read_er {l : L} {p : Nat} {e : Int} (hl : l.length ≤ 8192) (h : rd l 0 0 = .error (p, e)) : resL (readR l) = [] ∧ resA (readR l) = p ∧ resE (readR l) = e := by
  rw [readR, if_neg (by omega), h]
  exact ⟨rfl, rfl, rfl⟩
theorem app3 (s more : ByteArray) : (s ++ ⟨#[10]⟩ ++ more).data.toList = s.data.toList ++ 10 :: more.data.toList := by simp
set_option maxRecDepth 100000 in
set_option maxHeartbeats 3200000 in
theorem fault_calls (s more : ByteArray) (w : World) (hT : Tbx w) : Calls Tryd.prog 8 #[.string s, .string more] w fun e w' => e = .returned (.bool true) ∧ Below w.heap.size w w' := by
  have HA := Lib.hid (awake_calls w hT)
  have HT := Lib.hid hT
  clear hT
  by_cases hbig : 4000 < s.size ∨ 3000 < more.size
  · by_cases hb1 : 4000 < s.size
    · clear hbig
      go_enter Tryd.func8, Tryd.ntmps8
      go_wp2_with fail
      refine HA.out.mono ?_
      rintro e w1 ⟨rfl, hb1⟩
      have HA1 := Lib.hid (awake_calls w1 (HT.out.below hb1))
      go_wp2_with (go_at_call 9; refine HA1.out.mono ?_; rintro e w2 ⟨rfl, hb2⟩)
      go_ret
      exact ⟨rfl, below_step hb1 hb2⟩
    · have hb3 : 3000 < more.size := by omega
      clear hbig
      go_enter Tryd.func8, Tryd.ntmps8
      go_wp2_with fail
      refine HA.out.mono ?_
      rintro e w1 ⟨rfl, hb1⟩
      have HA1 := Lib.hid (awake_calls w1 (HT.out.below hb1))
      go_wp2_with (go_at_call 9; refine HA1.out.mono ?_; rintro e w2 ⟨rfl, hb2⟩)
      go_ret
      exact ⟨rfl, below_step hb1 hb2⟩
  · have hs1 : s.size ≤ 4000 := by omega
    have hs2 : more.size ≤ 3000 := by omega
    obtain ⟨ts, h1⟩ : ∃ ts, resL (readR s.data.toList) = ts := ⟨_, rfl⟩
    obtain ⟨a, h2⟩ : ∃ a, resA (readR s.data.toList) = a := ⟨_, rfl⟩
    obtain ⟨er, h3⟩ : ∃ a, resE (readR s.data.toList) = a := ⟨_, rfl⟩
    have HP := Lib.hid (fun W (hW : Tbx W) => read_parts s ts a er W (by omega) hW h1 h2 h3)
    clear hbig h1
    go_enter Tryd.func8, Tryd.ntmps8
    go_wp2_with fail
    refine HA.out.mono ?_
    rintro e w1 ⟨rfl, hb1⟩
    have HB1 := Lib.hid hb1
    have HC := Lib.hid (HP.out w1 (HT.out.below hb1))
    clear hb1
    by_cases he : er = 2
    · subst he
      obtain ⟨_, hf⟩ := read_fault h2 h3
      obtain ⟨q1, ⟨us, q2⟩, q3⟩ := fault_rd hf
      have hl : s.data.toList.length = s.size := by simp
      rw [hl] at q1
      obtain ⟨sa, hsa⟩ : ∃ x, x = s.extract 0 a := ⟨_, rfl⟩
      have hsl : sa.data.toList = s.data.toList.take a := by rw [hsa, ext0]
      have hss : sa.size ≤ 4000 := by rw [ba_size, hsl, List.length_take, hl]; omega
      have r1 := read_rd (l := s.data.toList.take a) (by rw [List.length_take, hl]; omega) q2
      have r2 := read_er (l := s.data.toList ++ 10 :: more.data.toList) (by rw [List.length_append, List.length_cons, hl, ← ba_size]; omega) (q3 more.data.toList)
      have HP2 := Lib.hid (fun W (hW : Tbx W) => read_parts sa us 0 0 W (by omega) hW (by rw [hsl]; exact r1.1) (by rw [hsl]; exact r1.2.1) (by rw [hsl]; exact r1.2.2))
      have hms : (s ++ ⟨#[10]⟩ ++ more).size ≤ 281474976710656 := by
        rw [ba_size, app3, List.length_append, List.length_cons, hl, ← ba_size]
        omega
      have HP3 := Lib.hid (fun W (hW : Tbx W) => read_parts (s ++ ⟨#[10]⟩ ++ more) [] a 2 W hms hW (by rw [app3]; exact r2.1) (by rw [app3]; exact r2.2.1) (by rw [app3]; exact r2.2.2))
      have HSA := Lib.hid hsa
      have ea : ((a : Int) == (a : Int)) = true := by simp
      clear h2 h3 hf q2 q3 hl hsl r1 r2 hsa hms
      go_wp2_with fail
      refine HC.out.mono ?_
      rintro e w2 ⟨A, c, rfl, _, hb2⟩
      have HB2 := Lib.hid (below_step HB1.out hb2)
      have HC2 := Lib.hid (HP2.out w2 (HT.out.below HB2.out))
      rw [HSA.out] at HC2
      clear hb2
      go_wp2_with fail
      refine HC2.out.mono ?_
      rintro e w3 ⟨A2, c2, rfl, _, hb3⟩
      have HB3 := Lib.hid (below_step HB2.out hb3)
      have HC3 := Lib.hid (HP3.out w3 (HT.out.below HB3.out))
      clear hb3
      go_wp2_with fail
      refine HC3.out.mono ?_
      rintro e w4 ⟨A3, c3, rfl, _, hb4⟩
      have HB4 := Lib.hid (below_step HB3.out hb4)
      clear hb4
      go_wp2
      go_ret
      exact ⟨rfl, HB4.out⟩
    · have en : (er != 2) = true := by rw [bne_iff_ne]; exact he
      clear h2 h3 he
      go_wp2_with fail
      refine HC.out.mono ?_
      rintro e w2 ⟨A, c, rfl, _, hb2⟩
      go_wp2
      go_ret
      exact ⟨rfl, below_step HB1.out hb2⟩
end Go.Proofs.YtfammikhejjjcaaDoor.Lex
