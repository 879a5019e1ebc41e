/- text and Text of the reference, at every value of at most 2000 nodes. No condition. -/
import Derived.Test.YtcikgloiojglpaaDoorDig
namespace Go.Proofs.YtcikgloiojglpaaDoor.Val
set_option linter.unusedVariables false
set_option linter.unusedSimpArgs false
open Go.RowKit Go.Proofs.YtcikgloiojglpaaDoorW.PrintWords Go.Proofs.YtcikgloiojglpaaDoor.Aux Go.Proofs.YtcikgloiojglpaaDoor.Kinds Go.Proofs.YtcikgloiojglpaaDoor.ValSpec
theorem join_snoc (xs : List (List UInt8)) (y : List UInt8) : joinT (xs ++ [y]) = if xs = [] then y else joinT xs ++ (44 :: 32 :: y) := by
  cases xs with
  | nil => simp [joinT, Lib.join_one]
  | cons x xs => simp [joinT, Lib.join_cons, Lib.joinTail]
theorem joins_nil (ps : List V) (hg : goods ps) : joinT (ps.map text) = [] ↔ ps.length = 0 := by
  cases ps with
  | nil => simp [joinT, Lib.join_nil]
  | cons p ps =>
    rw [goods] at hg
    have := (text_len p hg.1).1
    simp only [List.map_cons, joinT, Lib.join_cons, List.length_cons]
    constructor
    · intro h
      rw [(List.append_eq_nil_iff.1 h).1] at this
      simp at this
    · intro h; omega
theorem goods_take {ps : List V} (h : goods ps) (j : Nat) : goods (ps.take j) := goods_of fun p hp => goods_mem h (List.mem_of_mem_take hp)
/-- What is known of a part's text, by the reference. -/
def TxtR (f : Nat) (ps : List V) : Prop := ∀ p, p ∈ ps → ∀ A c W, VR W p A c → Calls Tryd.prog f #[.agg #[.int .i64 p.f0, .int .i64 p.f1, .slice A p.f2.length c]] W fun e w' => e = .returned (.string (tb p)) ∧ Below W.heap.size W w'
set_option maxRecDepth 100000 in
set_option maxHeartbeats 3200000 in
theorem reftext_core (kk nn : Int) (ps : List V) (A : Option Addr) (c : Nat) (w : World) (hr0 : -9223372036854775808 ≤ nn) (hr1 : nn ≤ 9223372036854775807) (hg : goods ps) (hsz : sizes ps ≤ 2000) (hsn : headB kk nn ps.length = true) (h : ps.length ≤ c) (hC : kV.C w A ps.length ps) (hI : TxtR 17 ps) :
    Calls Tryd.prog 17 #[.agg #[.int .i64 kk, .int .i64 nn, .slice A ps.length c]] w fun e w' => e = .returned (.string (bs (textOf kk nn (ps.map text)))) ∧ Below w.heap.size w w' := by
  have hb1 := below_alloc (Below.refl w.heap.size w) (.cells #[.int .i64 kk, .int .i64 nn, .slice A ps.length c] 24)
  have hF : ∀ W, Below (w.alloc (.cells #[.int .i64 kk, .int .i64 nn, .slice A ps.length c] 24)).heap.size (w.alloc (.cells #[.int .i64 kk, .int .i64 nn, .slice A ps.length c] 24)) W → W.cell? ⟨w.heap.size, 0, none⟩ = some (.int .i64 kk) ∧ W.cell? ⟨w.heap.size, 1, none⟩ = some (.int .i64 nn) ∧ W.cell? ⟨w.heap.size, 2, none⟩ = some (.slice A ps.length c) ∧ kV.C W A ps.length ps ∧ Below w.heap.size w W := fun W hW => by
    have bk := blk_below (blk_new w _) hW
    exact ⟨(blk_cell bk 0).trans rfl, (blk_cell bk 1).trans rfl, (blk_cell bk 2).trans rfl, Kd.C_below hC (below_step hb1 hW), below_step hb1 hW⟩
  obtain ⟨c0, c1, c2, _, _⟩ := hF _ (Below.refl _ _)
  have HB0 := Lib.hid (Below.refl (w.alloc (.cells #[.int .i64 kk, .int .i64 nn, .slice A ps.length c] 24)).heap.size (w.alloc (.cells #[.int .i64 kk, .int .i64 nn, .slice A ps.length c] 24)))
  have HF := Lib.hid hF
  have HI := Lib.hid hI
  have HSN := Lib.hid hsn
  have HR0 := Lib.hid hr0
  have HR1 := Lib.hid hr1
  have HJT := Lib.hid (fun j => parts_len (goods_take hg j) (Nat.le_trans (sizes_take_le ps j) hsz))
  have HTX := Lib.hid (fun p (hp : p ∈ ps) => show (text p).length ≤ 100000 from by
    have h1 := (text_len p (goods_mem hg hp)).2
    have h2 := size_mem hp
    omega)
  have HNIL := Lib.hid (joins_nil ps hg)
  have HPL : Hid (ps.map text = [] ↔ ps.length = 0) := Lib.hid (by rw [List.map_eq_nil_iff, List.length_eq_zero_iff])
  have hm := (C_len hC).2
  have HDG := Lib.hid (fun W => digits_calls nn W hr0 hr1)
  clear hb1 hC hI h hF hg hsz hr0 hr1 hsn
  go_enter Tryd.func17, Tryd.ntmps17
  go_wp2_with fail
  clear c0 c1 c2
  go_loopg [3, 4] (ps.length) (fun g s i wx => ∃ j : Nat, i = .int .i64 j ∧ j ≤ ps.length ∧ g = ps.length - j ∧ Hid (Below (w.alloc (.cells #[.int .i64 kk, .int .i64 nn, .slice A ps.length c] 24)).heap.size (w.alloc (.cells #[.int .i64 kk, .int .i64 nn, .slice A ps.length c] 24)) wx) ∧ ∃ sj : ByteArray, s = .string sj ∧ Hid (sj = bs (joinT ((ps.take j).map text))))
  case atStart => exact ⟨0, rfl, Nat.zero_le _, rfl, HB0, _, rfl, Lib.hid rfl⟩
  case round =>
    obtain ⟨j, rfl, hj, rfl, hbr, sj, rfl, hsj⟩ := hrel
    obtain ⟨c0, c1, c2, hp, hbw⟩ := HF.out _ hbr.out
    have HBW := Lib.hid hbw
    have z1 : sj.size ≤ 100000 := by rw [hsj.out, bs_size]; exact HJT.out j
    by_cases hlt : j < ps.length
    · obtain ⟨ad, A', c', hA, e0, e1, e2, hq⟩ := el hp hlt
      subst hA
      obtain ⟨p, hpp⟩ : ∃ p, p = ps.getD j zV := ⟨_, rfl⟩
      have hmem : p ∈ ps := by rw [hpp]; exact getD_mem hlt
      rw [← hpp] at e0 e1 e2 hq
      have HCALL := Lib.hid (HI.out p hmem A' c' _ hq)
      have z2 : (tb p).size ≤ 100000 := by rw [tb, bs_size]; exact HTX.out p hmem
      have HSNOC := Lib.hid (show joinT ((ps.take (j + 1)).map text) = if j = 0 then text p else joinT ((ps.take j).map text) ++ (44 :: 32 :: text p) by
        rw [take_snoc hlt, ← hpp, List.map_append, List.map_cons, List.map_nil, join_snoc]
        by_cases h0 : j = 0
        · subst h0; simp
        · have hne : (ps.take j).map text ≠ [] := fun h => by
            have := congrArg List.length h
            rw [List.length_map, List.length_take, List.length_nil] at this
            omega
          rw [if_neg hne, if_neg h0])
      have HTB := Lib.hid (show tb p = bs (text p) from rfl)
      generalize tb p = tp at *
      clear hq hp hbw hmem hpp
      by_cases h0 : 0 < j
      · go_wp2_with fail
        refine HCALL.out.mono ?_
        rintro e w1 ⟨rfl, hb2⟩
        have HB2 := Lib.hid (below_step hbr.out hb2)
        clear hb2 c0 c1 c2 e0 e1 e2
        go_wp2
        go_roundg (ps.length - (j + 1))
        case measure => omega
        case rel => exact ⟨j + 1, by go_num, by omega, rfl, HB2, _, rfl, Lib.hid (by
          rw [HSNOC.out, if_neg (by omega), HTB.out, hsj.out, show (⟨#[44, 32]⟩ : ByteArray) = bs [44, 32] from rfl, bs_append, bs_append]
          simp)⟩
      · have hj0 : j ≤ 0 := by omega
        go_wp2_with fail
        refine HCALL.out.mono ?_
        rintro e w1 ⟨rfl, hb2⟩
        have HB2 := Lib.hid (below_step hbr.out hb2)
        clear hb2 c0 c1 c2 e0 e1 e2
        go_wp2
        go_roundg (ps.length - (j + 1))
        case measure => omega
        case rel => exact ⟨j + 1, by go_num, by omega, rfl, HB2, _, rfl, Lib.hid (by
          obtain rfl : j = 0 := by omega
          rw [HSNOC.out, if_pos rfl, HTB.out, hsj.out, show joinT ((ps.take 0).map text) = [] by rw [List.take_zero]; rfl, bs_append]
          rfl)⟩
    · obtain rfl : j = ps.length := by omega
      have HSA := Lib.hid (show sj = bs (joinT (ps.map text)) by have := hsj.out; rwa [List.take_length] at this)
      clear hp hbw
      by_cases k3 : kk = 3
      · subst k3
        have HRES := Lib.hid (show textOf 3 nn (ps.map text) = 40 :: (joinT (ps.map text) ++ [41]) by simp [textOf])
        go_wp2
        go_ret
        exact ⟨ret_str (by rw [HRES.out, HSA.out]; exact w_pair _), HBW.out⟩
      have q3 : (kk == 3) = false := by rw [beq_eq_false_iff_ne]; exact k3
      have z2 : (bs (Lib.itoa nn)).size ≤ 20 := by rw [bs_size]; exact (itoa_len HR0.out HR1.out).2
      obtain ⟨sn, hsn2⟩ : ∃ s, s = bs (Lib.itoa nn) := ⟨_, rfl⟩
      rw [← hsn2] at z2 HDG
      have HSN2 := Lib.hid hsn2
      clear hsn2
      by_cases k5 : kk = 5
      · subst k5
        have HRES := Lib.hid (show textOf 5 nn (ps.map text) = tRef ++ Lib.itoa nn by simp [textOf])
        clear k3
        go_wp2_with (go_at_call 23; refine (HDG.out _).mono ?_; rintro e w2 ⟨rfl, hb2⟩)
        go_ret
        exact ⟨ret_str (by rw [HRES.out, HSN2.out]; exact w_ref _), below_step HBW.out hb2⟩
      have q5 : (kk == 5) = false := by rw [beq_eq_false_iff_ne]; exact k5
      by_cases k4 : kk = 4
      · subst k4
        by_cases hl : ps.length = 0
        · have HRES := Lib.hid (show textOf 4 nn (ps.map text) = tFun ++ Lib.itoa nn by rw [textOf, if_neg (by omega), if_neg (by omega), if_pos rfl, if_pos (HPL.out.2 hl)])
          have e9 : sj.toList = [] := by rw [HSA.out, ByteArray.toList_eq, bs_list]; exact HNIL.out.2 hl
          have s0 : (sj.toList == ByteArray.toList ⟨#[]⟩) = true := by rw [e9, ByteArray.toList_eq]; rfl
          have s2 : (sj.toList != ByteArray.toList ⟨#[]⟩) = false := by rw [bne, s0]; rfl
          have s3 : sj.toList.isEmpty = true := by rw [e9]; rfl
          clear k3 k5 hl e9
          go_wp2_with (go_at_call 23; refine (HDG.out _).mono ?_; rintro e w2 ⟨rfl, hb2⟩)
          go_ret
          exact ⟨ret_str (by rw [HRES.out, HSN2.out]; exact w_fun _), below_step HBW.out hb2⟩
        · have HRES := Lib.hid (show textOf 4 nn (ps.map text) = tFun ++ (Lib.itoa nn ++ (32 :: 91 :: (joinT (ps.map text) ++ [93]))) by rw [textOf, if_neg (by omega), if_neg (by omega), if_pos rfl, if_neg (fun h => hl (HPL.out.1 h))])
          have e9 : sj.toList ≠ [] := by rw [HSA.out, ByteArray.toList_eq, bs_list]; exact fun h => hl (HNIL.out.1 h)
          have s0 : (sj.toList == ByteArray.toList ⟨#[]⟩) = false := by rw [beq_eq_false_iff_ne, ByteArray.toList_eq ⟨#[]⟩]; exact e9
          have s2 : (sj.toList != ByteArray.toList ⟨#[]⟩) = true := by rw [bne, s0]; rfl
          have s3 : sj.toList.isEmpty = false := by rw [List.isEmpty_eq_false_iff]; exact e9
          clear k3 k5 hl
          go_wp2_with (go_at_call 23; refine (HDG.out _).mono ?_; rintro e w2 ⟨rfl, hb2⟩)
          go_ret
          exact ⟨ret_str (by rw [HRES.out, HSN2.out, HSA.out]; exact w_funs _ _), below_step HBW.out hb2⟩
      have q4 : (kk == 4) = false := by rw [beq_eq_false_iff_ne]; exact k4
      by_cases k1 : kk = 1
      · subst k1
        have HRES := Lib.hid (show textOf 1 nn (ps.map text) = Lib.itoa nn by simp [textOf])
        clear k3 k4 k5
        go_wp2_with (go_at_call 23; refine (HDG.out _).mono ?_; rintro e w2 ⟨rfl, hb2⟩)
        go_ret
        exact ⟨ret_str (by rw [HRES.out, HSN2.out]), below_step HBW.out hb2⟩
      have q1 : (kk == 1) = false := by rw [beq_eq_false_iff_ne]; exact k1
      have hk2 : kk = 2 ∧ (nn = 0 ∨ nn = 1) := by
        have := HSN.out
        unfold headB at this
        rw [if_neg k1] at this
        by_cases k2 : kk = 2
        · rw [if_pos k2] at this
          simp only [Bool.and_eq_true, Bool.or_eq_true, decide_eq_true_eq] at this
          exact ⟨k2, this.2⟩
        · rw [if_neg k2, if_neg k3, if_neg k4, if_neg k5] at this
          cases this
      obtain ⟨rfl, hn⟩ := hk2
      by_cases hn0 : nn = 0
      · have HRES := Lib.hid (show textOf 2 nn (ps.map text) = tFalse by simp [textOf, hn0])
        have e1 : (nn == 0) = true := by rw [beq_iff_eq]; exact hn0
        clear k1 k3 k4 k5 hn hn0
        go_wp2
        go_ret
        exact ⟨ret_str (by rw [HRES.out]; rfl), HBW.out⟩
      · have HRES := Lib.hid (show textOf 2 nn (ps.map text) = tTrue by
          have : nn = 1 := by omega
          simp [textOf, this])
        have e1 : (nn == 0) = false := by rw [beq_eq_false_iff_ne]; exact hn0
        clear k1 k3 k4 k5 hn hn0
        go_wp2
        go_ret
        exact ⟨ret_str (by rw [HRES.out]; rfl), HBW.out⟩
theorem reftext_k : ∀ (k : Nat) (v : V) (A : Option Addr) (c : Nat) (w : World), size v ≤ k → size v ≤ 2000 → good v → sound v = true → VR w v A c →
    Calls Tryd.prog 17 #[.agg #[.int .i64 v.f0, .int .i64 v.f1, .slice A v.f2.length c]] w fun e w' => e = .returned (.string (tb v)) ∧ Below w.heap.size w w' := by
  intro k
  induction k with
  | zero => intro v A c w hk; have := size_pos v; omega
  | succ k ih =>
    intro v A c w hk hz hg hs h
    have hg2 := hg
    rw [good_eq] at hg2
    have hsz := size_eq v
    rw [tb, text_eq]
    exact reftext_core v.f0 v.f1 v.f2 A c w hg2.1.1 hg2.1.2 hg2.2 (by omega) (sound_head hs) h.1 h.2 (fun p hp A c W hV => ih p A c W (by have := size_part hp; omega) (by have := size_part hp; omega) (good_part hg hp) (sound_part hs hp) hV)
theorem reftext_calls (v : V) (A : Option Addr) (c : Nat) (w : World) (hz : size v ≤ 2000) (hg : good v) (hs : sound v = true) (h : VR w v A c) :
    Calls Tryd.prog 17 #[.agg #[.int .i64 v.f0, .int .i64 v.f1, .slice A v.f2.length c]] w fun e w' => e = .returned (.string (tb v)) ∧ Below w.heap.size w w' := reftext_k (size v) v A c w (Nat.le_refl _) hz hg hs h
theorem refText_calls (v : V) (A : Option Addr) (c : Nat) (w : World) (hg : good v) (h : VR w v A c) :
    Calls Tryd.prog 10 #[.agg #[.int .i64 v.f0, .int .i64 v.f1, .slice A v.f2.length c]] w fun e w' => TextPost v w e w' := by
  have hF := boxV h
  obtain ⟨c0, c1, c2, hp, hbw⟩ := hF _ (Below.refl _ _)
  have HFC := Lib.hid (refformed_calls v A c _ hg hp)
  have HF := Lib.hid hF
  have HG := Lib.hid hg
  obtain ⟨f, hf⟩ : ∃ f, f = formedV v := ⟨_, rfl⟩
  rw [← hf] at HFC
  have HFV := Lib.hid hf
  clear hF hp hbw h hg hf
  go_enter Tryd.func10, Tryd.ntmps10
  go_wp2_with fail
  refine HFC.out.mono ?_
  rintro e w1 ⟨rfl, hb1⟩
  clear c0 c1 c2
  obtain ⟨c0, c1, c2, hp, hbw⟩ := HF.out _ hb1
  have HB := Lib.hid hbw
  cases f with
  | false =>
    clear hp hbw hb1
    go_wp2
    go_ret2
    exact ⟨.inr ⟨HFV.out.symm, rfl⟩, HB.out⟩
  | true =>
    have hz := HFV.out
    simp only [formedV, Bool.true_eq, Bool.and_eq_true, decide_eq_true_eq] at hz
    have HX := Lib.hid (reftext_calls v A c _ hz.1 HG.out hz.2 hp)
    clear hp hbw hb1 hz
    go_wp2_with (go_at_call 17; refine HX.out.mono ?_; rintro e w2 ⟨rfl, hb2⟩)
    go_ret2
    exact ⟨.inl ⟨HFV.out.symm, rfl⟩, below_step HB.out hb2⟩
end Go.Proofs.YtcikgloiojglpaaDoor.Val
