/- lex.word at every text that is not empty. Conditions: what is laid. -/
import Derived.Test.YtfammikhejjjcaaDoorLex2
import Derived.Lib.IndexLaws
import Derived.Lib.SmallJoins
namespace Go.Proofs.YtfammikhejjjcaaDoor.Lex
set_option linter.unusedVariables false
set_option linter.unusedSimpArgs false
open Go Go.Lib Go.RowKit Go.Proofs.YtfammikhejjjcaaDoorW.PrintWords Go.Proofs.YtfammikhejjjcaaDoor.Aux Go.Proofs.YtfammikhejjjcaaDoor.LatSpec Go.Proofs.YtfammikhejjjcaaDoor.LexSpec
/-- The word at a text's beginning, as it lies in memory. -/
def tokT (l : L) : T := match next l with
  | none => ⟨0, ⟨#[]⟩, 0, 0⟩
  | some t => ⟨t.k, ⟨(l.take t.m).toArray⟩, t.n, 0⟩
theorem tok_none {l : L} (h : next l = none) : tokT l = ⟨0, ⟨#[]⟩, 0, 0⟩ := by rw [tokT, h]
theorem tok_some {l : L} {t : Tk} (h : next l = some t) : tokT l = ⟨t.k, ⟨(l.take t.m).toArray⟩, t.n, 0⟩ := by rw [tokT, h]
theorem ext0 (s : ByteArray) (m : Nat) : s.extract 0 m = ⟨(s.data.toList.take m).toArray⟩ := by
  apply ba_ext
  rw [ByteArray.data_extract, Array.toList_extract]
  simp
theorem ret_tok {x : T} {k n a : Int} {t : ByteArray} (h : x = ⟨k, t, n, a⟩) : Ending.returned (.agg #[.int .i64 k, .string t, .int .i64 n, .int .i64 a]) = .returned (.agg #[.int .i64 x.f0, .string x.f1, .int .i64 x.f2, .int .i64 x.f3]) := by rw [h]
/-- What digits spell, behind other digits. -/
def valF (acc : Nat) (l : L) : Nat := l.foldl (fun a c => a * 10 + (c.toNat - 48)) acc
theorem valF_ge (l : L) : ∀ acc, acc ≤ valF acc l := by
  induction l with
  | nil => intro acc; exact Nat.le_refl _
  | cons c r ih =>
    intro acc
    have := ih (acc * 10 + (c.toNat - 48))
    rw [valF, List.foldl_cons]
    rw [valF] at this
    omega
theorem parseM_digits (l : L) (hd : ∀ b ∈ l, digitR b.toNat = true) : ∀ acc, acc ≤ 18446744073709551615 → parseUintM (2 ^ 64 - 1) acc l = if valF acc l ≤ 18446744073709551615 then .ok (valF acc l) else .range := by
  induction l with
  | nil => intro acc h; simp [parseUintM, valF, h]
  | cons c r ih =>
    intro acc h
    have hc := hd c (by simp)
    simp only [digitR, Bool.and_eq_true, decide_eq_true_eq] at hc
    have e : valF acc (c :: r) = valF (acc * 10 + (c.toNat - 48)) r := rfl
    have hge := valF_ge r (acc * 10 + (c.toNat - 48))
    rw [parseUintM, if_pos hc, e]
    by_cases h1 : 1844674407370955162 ≤ acc
    · rw [if_pos h1, if_neg (by omega)]
    · rw [if_neg h1]
      by_cases h2 : 2 ^ 64 - 1 < acc * 10 + (c.toNat - 48)
      · rw [if_pos h2, if_neg (by omega)]
      · rw [if_neg h2, ih (fun b hb => hd b (by simp [hb])) _ (by omega)]
theorem parse_digits {l : L} (hne : l ≠ []) (hd : ∀ b ∈ l, digitR b.toNat = true) : parseIntB 64 l = if valD l < 9223372036854775808 then .ok (valD l : Int) else .range := by
  match l, hne with
  | c :: r, _ =>
    have hc := hd c (by simp)
    simp only [digitR, Bool.and_eq_true, decide_eq_true_eq] at hc
    have n43 : ¬ (c.toNat = 43 ∨ c.toNat = 45) := by omega
    have n45 : ¬ c.toNat = 45 := by omega
    have hp := parseM_digits (c :: r) hd 0 (by omega)
    have e : valF 0 (c :: r) = valD (c :: r) := rfl
    rw [e] at hp
    rw [parseIntB]
    simp only [if_neg n43, parseUintB, if_neg (show ¬ (c :: r) = [] by simp), hp]
    by_cases h1 : valD (c :: r) ≤ 18446744073709551615
    · rw [if_pos h1]
      by_cases h2 : valD (c :: r) < 9223372036854775808
      · rw [if_pos h2]
        simp only [n45, not_false_eq_true, true_and, false_and, if_false]
        rw [if_neg (by omega)]
      · rw [if_neg h2]
        simp only [n45, not_false_eq_true, true_and, false_and, if_false]
        rw [if_pos (by omega)]
    · rw [if_neg h1, if_neg (by omega)]
theorem dig_all : ∀ (n : Nat) (l : L), l.length ≤ n → ∀ b ∈ l.take (ofN digitR l), digitR b.toNat = true
  | _, [], _ => by simp
  | 0, _ :: _, h => by simp at h
  | n + 1, c :: t, h => by
    rw [LexSpec.of_digit (by simp)]
    by_cases hc : isD (c :: t) = true
    · rw [if_pos hc]
      intro b hb
      rw [Nat.add_comm, List.take_succ_cons, List.mem_cons] at hb
      rcases hb with rfl | hb
      · exact hc
      · exact dig_all n t (by simp at h; omega) b hb
    · rw [if_neg hc]
      simp
def sg4 : List ByteArray := [⟨#[61, 61]⟩, ⟨#[61, 62]⟩, ⟨#[45, 62]⟩, ⟨#[58, 61]⟩]
theorem sg4_len : sg4.length = 4 := rfl
theorem sign2_of {l : L} {k : Nat} (hk : k < 4) (h : hasPrefix l (sg4.getD k ByteArray.empty).data.toList = true) : sign2 l = true ∧ (⟨(l.take 2).toArray⟩ : ByteArray) = sg4.getD k ByteArray.empty ∧ 2 ≤ l.length := by
  match l with
  | [] => match k, hk with
    | 0, _ => simp [sg4, hasPrefix] at h
    | 1, _ => simp [sg4, hasPrefix] at h
    | 2, _ => simp [sg4, hasPrefix] at h
    | 3, _ => simp [sg4, hasPrefix] at h
  | [a] => match k, hk with
    | 0, _ => simp [sg4, hasPrefix] at h
    | 1, _ => simp [sg4, hasPrefix] at h
    | 2, _ => simp [sg4, hasPrefix] at h
    | 3, _ => simp [sg4, hasPrefix] at h
  | a :: b :: t => match k, hk with
    | 0, _ =>
      obtain ⟨rfl, rfl⟩ : 61 = a ∧ 61 = b := by simpa [sg4, hasPrefix] using h
      exact ⟨rfl, rfl, by simp⟩
    | 1, _ =>
      obtain ⟨rfl, rfl⟩ : 61 = a ∧ 62 = b := by simpa [sg4, hasPrefix] using h
      exact ⟨rfl, rfl, by simp⟩
    | 2, _ =>
      obtain ⟨rfl, rfl⟩ : 45 = a ∧ 62 = b := by simpa [sg4, hasPrefix] using h
      exact ⟨rfl, rfl, by simp⟩
    | 3, _ =>
      obtain ⟨rfl, rfl⟩ : 58 = a ∧ 61 = b := by simpa [sg4, hasPrefix] using h
      exact ⟨rfl, rfl, by simp⟩
theorem pre2 {x y a b : UInt8} {t : L} (h : hasPrefix (a :: b :: t) [x, y] = false) : ¬ (x = a ∧ y = b) := by
  rintro ⟨rfl, rfl⟩
  simp [hasPrefix, List.isPrefixOf] at h
theorem sign2_not {l : L} (h : ∀ k, k < 4 → hasPrefix l (sg4.getD k ByteArray.empty).data.toList = false) : sign2 l = false := by
  match l with
  | [] => rfl
  | [a] => rfl
  | a :: b :: t =>
    have h0 : ¬ (61 = a ∧ 61 = b) := pre2 (h 0 (by omega))
    have h1 : ¬ (61 = a ∧ 62 = b) := pre2 (h 1 (by omega))
    have h2 : ¬ (45 = a ∧ 62 = b) := pre2 (h 2 (by omega))
    have h3 : ¬ (58 = a ∧ 61 = b) := pre2 (h 3 (by omega))
    rw [sign2, decide_eq_false_iff_not]
    simp only [List.mem_cons, Prod.mk.injEq, List.not_mem_nil, or_false]
    rintro (⟨rfl, rfl⟩ | ⟨rfl, rfl⟩ | ⟨rfl, rfl⟩ | ⟨rfl, rfl⟩) <;> simp at *
theorem ib_mem (l : L) (c : UInt8) : 0 ≤ indexByte l c ↔ c ∈ l := by
  constructor
  · intro h
    obtain ⟨o, ho⟩ := Int.eq_ofNat_of_zero_le h
    exact List.mem_of_getElem? (indexByte_some ho).1
  · intro h
    rcases Int.lt_or_le (indexByte l c) 0 with h1 | h1
    · have := indexByte_ge l c
      obtain ⟨k, hk, e⟩ := List.getElem_of_mem h
      exact absurd ((List.getElem?_eq_getElem hk).trans (congrArg some e)) (indexByte_none (by omega) k)
    · exact h1
theorem alloc_size' (w : World) (o : Obj) : (w.alloc o).heap.size = w.heap.size + 1 := by simp
theorem name_ext (s : ByteArray) (m : Nat) : nameP (s.extract 0 m).data.toList = nameR (s.data.toList.take m) := by rw [ext0, name_eq]
theorem parse_ok (tx : ByteArray) (v : Nat) (w : World) (h : parseIntB 64 tx.data.toList = .ok (v : Int)) (hs : tx.size ≤ 281474976710656) :
    Calls Tryd.prog 31 #[.string tx, .int .i64 10, .int .i64 64] w fun e w' => e = .returned (.tuple #[.int .i64 v, .nilIface]) ∧ Below w.heap.size w w' := by
  refine (Tryd.strconv_ParseInt_10_at64_ok tx (by omega) v h w).mono ?_
  rintro e w' ⟨he, hw⟩
  refine ⟨he, ?_⟩
  rcases hw with rfl | ⟨t, rfl⟩
  · exact Below.refl _ _
  · exact bytes_below (Below.refl _ _) (Nat.le_refl _) _ _
theorem parse_bad (tx : ByteArray) (w : World) (hT : Tbx w) (h : parseIntB 64 tx.data.toList = .range) (hs : tx.size ≤ 281474976710656) :
    Calls Tryd.prog 31 #[.string tx, .int .i64 10, .int .i64 64] w fun e w' => ∃ v ty p, e = .returned (.tuple #[.int .i64 v, .iface ty p]) ∧ Below w.heap.size w w' := by
  obtain ⟨te, pe, hc⟩ := (hT w (Below.refl _ _)).2.2
  refine (Tryd.strconv_ParseInt_10_at64_range tx hs h _ w hc (.inr ⟨te, pe, rfl⟩)).mono ?_
  rintro e w' ⟨N, he, _, _, hb⟩
  exact ⟨_, _, _, he, hb⟩
set_option maxRecDepth 100000 in
set_option maxHeartbeats 3200000 in
theorem word_calls (s : ByteArray) (x : T) (w : World) (hx : tokT s.data.toList = x) (hs0 : 0 < s.size) (hs : s.size ≤ 281474976710656) (hT : Tbx w) :
    Calls Tryd.prog 20 #[.string s] w fun e w' => e = .returned (.agg #[.int .i64 x.f0, .string x.f1, .int .i64 x.f2, .int .i64 x.f3]) ∧ Below w.heap.size w w' := by
  have hls : s.data.toList.length = s.size := by simp
  have hne : s.data.toList ≠ [] := by intro e; rw [e] at hls; simp at hls; omega
  have HNE := Lib.hid hne
  have HL := Lib.hid hls
  have HX := Lib.hid hx
  have hb0 := below_alloc (Below.refl w.heap.size w) (.cells #[.int .i64 0, .string ⟨#[]⟩, .int .i64 0, .int .i64 0] 36)
  obtain ⟨W0, hW0⟩ : ∃ W0, W0 = w.alloc (.cells #[.int .i64 0, .string ⟨#[]⟩, .int .i64 0, .int .i64 0] 36) := ⟨_, rfl⟩
  rw [← hW0] at hb0
  have HT := Lib.hid (hT.below hb0)
  have hg0 : W0.heap[w.heap.size]? = some (.cells #[.int .i64 0, .string ⟨#[]⟩, .int .i64 0, .int .i64 0] 36 (0, 0)) := by rw [hW0]; exact blk_new _ _
  have H1 := Lib.hid (of_letter s W0 HT.out)
  have HW0 := Lib.hid hW0
  have HB0 := Lib.hid hb0
  have HG0 := Lib.hid hg0
  clear hT hne hb0 hls hg0 hW0 hx
  go_enter Tryd.func20, Tryd.ntmps20
  go_wp2_with fail
  rw [← HW0.out]
  refine H1.out.mono ?_
  rintro e w1 ⟨rfl, hb1⟩
  obtain ⟨a, ha⟩ : ∃ a, ofN letterR s.data.toList = a := ⟨_, rfl⟩
  have hpos := letter_pos HNE.out
  rw [ha] at hpos ⊢
  have HG1 := Lib.hid (blk_below HG0.out hb1)
  have HB1 := Lib.hid (below_step HB0.out hb1)
  have HT1 := Lib.hid (HT.out.below hb1)
  clear hb1 ha
  by_cases hk : 0 < ks s.data.toList
  · have ha0 : 0 < a := hpos.2 hk
    obtain ⟨m, hm⟩ : ∃ m, ofN wordP s.data.toList = m := ⟨_, rfl⟩
    have hms : m ≤ s.size := by rw [← hm, ← HL.out]; exact ofN_len _ _
    have H2 := Lib.hid (of_word s w1 HT1.out)
    rw [hm] at H2
    have HK := Lib.hid hk
    have HM := Lib.hid hm
    clear hk hpos hm
    go_wp2_with fail
    refine H2.out.mono ?_
    rintro e w2 ⟨rfl, hb2⟩
    have HG2 := Lib.hid (blk_below HG1.out hb2)
    have HB2 := Lib.hid (below_step HB1.out hb2)
    have HT2 := Lib.hid (HT1.out.below hb2)
    clear hb2
    obtain ⟨tx, htx⟩ : ∃ tx, tx = s.extract 0 m := ⟨_, rfl⟩
    have htl : tx.data.toList = s.data.toList.take m := by rw [htx, ext0]
    have hts : tx.size ≤ 9223372036854775807 := by
      have : tx.size = tx.data.toList.length := by simp
      rw [this, htl, List.length_take, HL.out]
      omega
    have hte : tx = ⟨(s.data.toList.take m).toArray⟩ := by rw [htx, ext0]
    have HTE := Lib.hid hte
    have HTL := Lib.hid htl
    have HTX := Lib.hid htx
    have HNM := Lib.hid (show ∀ W, Tbx W → Calls Tryd.prog 30 #[.string tx] W fun e w' => e = .returned (.bool (nameR (s.data.toList.take m))) ∧ Below W.heap.size W w' from fun W hW => by
      have := LatName.name_calls tx W hts hW.here
      rwa [htl, ← name_eq] at this)
    have HKW := Lib.hid (fun W (hW : Tbx W) => keyword_calls tx (isKw (s.data.toList.take m)) W hW (by rw [htl]))
    obtain ⟨nm, hnm⟩ : ∃ t, nameR (s.data.toList.take m) = t := ⟨_, rfl⟩
    obtain ⟨kw, hkw⟩ : ∃ t, isKw (s.data.toList.take m) = t := ⟨_, rfl⟩
    rw [hnm] at HNM
    rw [hkw] at HKW
    have HNX := Lib.hid (show next s.data.toList = nextName s.data.toList by rw [next, if_pos HK.out])
    have HNN := Lib.hid hnm
    have HKK := Lib.hid hkw
    clear hnm hkw htl hte hts htx
    have hb3 := below_alloc (Below.refl w2.heap.size w2) (.cells #[.int .i64 1, .string tx, .int .i64 0, .int .i64 0] 36)
    have HB3 := Lib.hid hb3
    have HC3 := Lib.hid (HNM.out _ (HT2.out.below hb3))
    clear hb3
    go_wp2_with fail
    rw [← HTX.out]
    refine HC3.out.mono ?_
    rintro e w4 ⟨rfl, hb4⟩
    have bk := blk_below (blk_new w2 (.cells #[.int .i64 1, .string tx, .int .i64 0, .int .i64 0] 36)) hb4
    have HBK := Lib.hid bk
    have HB4 := Lib.hid (below_step HB3.out hb4)
    have HG4 := Lib.hid (blk_below HG2.out (below_step HB3.out hb4))
    clear hb4 bk
    have HB5 := Lib.hid (below_step HB2.out HB4.out)
    have hlt : w.heap.size < w2.heap.size := blk_lt HG2.out
    cases nm with
    | false =>
      have HRES := Lib.hid (show x = ⟨0, ⟨#[]⟩, 0, 0⟩ by rw [← HX.out, tok_none]; rw [HNX.out, nextName, HM.out, if_neg (by rw [HNN.out]; simp)])
      have g0 := (blk_cell HG4.out 0).trans rfl
      have gf0 := blk_frozen HG4.out 0
      have g1 := (blk_cell HG4.out 1).trans rfl
      have gf1 := blk_frozen HG4.out 1
      have g2 := (blk_cell HG4.out 2).trans rfl
      have gf2 := blk_frozen HG4.out 2
      have g3 := (blk_cell HG4.out 3).trans rfl
      have gf3 := blk_frozen HG4.out 3
      have gz := blk_lt HG4.out
      go_wp2
      (try simp only [Exit.inBlock, Exit.then])
      exact bodyPost_ret (results_cell_row rfl _ _ w.heap.size 36 #[.int .i64 0, .string ⟨#[]⟩, .int .i64 0, .int .i64 0] (0, 0) _ rfl (blk_put (blk_put (blk_put (blk_put HG4.out 0 _ rfl) 1 _ rfl) 2 _ rfl) 3 _ rfl) Tryd.underlying36 rfl rfl) rfl ⟨ret_tok HRES.out, below_set (below_set (below_set (below_set HB5.out (Nat.le_refl _)) (Nat.le_refl _)) (Nat.le_refl _)) (Nat.le_refl _)⟩
    | true =>
      have HC5 := Lib.hid (HKW.out w4 (HT2.out.below HB4.out))
      have x1 := (blk_cell HBK.out 1).trans rfl
      go_wp2_with fail
      refine HC5.out.mono ?_
      rintro e w5 ⟨rfl, hb5⟩
      clear x1
      have HL5 := Lib.hid (blk_below HBK.out hb5)
      have HG5 := Lib.hid (blk_below HG4.out hb5)
      have HB6 := Lib.hid (below_step HB5.out hb5)
      clear hb5
      have hne2 : w.heap.size ≠ w2.heap.size := by omega
      cases kw with
      | true =>
        have HRES := Lib.hid (show x = ⟨2, tx, 0, 0⟩ by rw [← HX.out, tok_some (t := ⟨2, m, 0⟩), ← HTE.out]; rw [HNX.out, nextName, HM.out, if_pos HNN.out, HKK.out]; rfl)
        have l0 := (blk_cell HL5.out 0).trans rfl
        have lf0 := blk_frozen HL5.out 0
        have l1 := (blk_cell HL5.out 1).trans rfl
        have lf1 := blk_frozen HL5.out 1
        have l2 := (blk_cell HL5.out 2).trans rfl
        have lf2 := blk_frozen HL5.out 2
        have l3 := (blk_cell HL5.out 3).trans rfl
        have lf3 := blk_frozen HL5.out 3
        have lz := blk_lt HL5.out
        have g0 := (blk_cell HG5.out 0).trans rfl
        have gf0 := blk_frozen HG5.out 0
        have g1 := (blk_cell HG5.out 1).trans rfl
        have gf1 := blk_frozen HG5.out 1
        have g2 := (blk_cell HG5.out 2).trans rfl
        have gf2 := blk_frozen HG5.out 2
        have g3 := (blk_cell HG5.out 3).trans rfl
        have gf3 := blk_frozen HG5.out 3
        have gz := blk_lt HG5.out
        go_wp2
        (try simp only [Exit.inBlock, Exit.then])
        exact bodyPost_ret (results_cell_row rfl _ _ w.heap.size 36 #[.int .i64 2, .string tx, .int .i64 0, .int .i64 0] (0, 0) _ rfl (blk_put (blk_put (blk_put (blk_put ((Below.heap_setCell _ _ _ _ hne2).trans HG5.out) 0 _ rfl) 1 _ rfl) 2 _ rfl) 3 _ rfl) Tryd.underlying36 rfl rfl) rfl ⟨ret_tok HRES.out, below_set (below_set (below_set (below_set (below_set HB6.out (Nat.le_of_lt hlt)) (Nat.le_refl _)) (Nat.le_refl _)) (Nat.le_refl _)) (Nat.le_refl _)⟩
      | false =>
        have HRES := Lib.hid (show x = ⟨1, tx, 0, 0⟩ by rw [← HX.out, tok_some (t := ⟨1, m, 0⟩), ← HTE.out]; rw [HNX.out, nextName, HM.out, if_pos HNN.out, HKK.out]; rfl)
        have l0 := (blk_cell HL5.out 0).trans rfl
        have lf0 := blk_frozen HL5.out 0
        have l1 := (blk_cell HL5.out 1).trans rfl
        have lf1 := blk_frozen HL5.out 1
        have l2 := (blk_cell HL5.out 2).trans rfl
        have lf2 := blk_frozen HL5.out 2
        have l3 := (blk_cell HL5.out 3).trans rfl
        have lf3 := blk_frozen HL5.out 3
        have lz := blk_lt HL5.out
        have g0 := (blk_cell HG5.out 0).trans rfl
        have gf0 := blk_frozen HG5.out 0
        have g1 := (blk_cell HG5.out 1).trans rfl
        have gf1 := blk_frozen HG5.out 1
        have g2 := (blk_cell HG5.out 2).trans rfl
        have gf2 := blk_frozen HG5.out 2
        have g3 := (blk_cell HG5.out 3).trans rfl
        have gf3 := blk_frozen HG5.out 3
        have gz := blk_lt HG5.out
        go_wp2
        (try simp only [Exit.inBlock, Exit.then])
        exact bodyPost_ret (results_cell_row rfl _ _ w.heap.size 36 #[.int .i64 1, .string tx, .int .i64 0, .int .i64 0] (0, 0) _ rfl (blk_put (blk_put (blk_put (blk_put HG5.out 0 _ rfl) 1 _ rfl) 2 _ rfl) 3 _ rfl) Tryd.underlying36 rfl rfl) rfl ⟨ret_tok HRES.out, below_set (below_set (below_set (below_set HB6.out (Nat.le_refl _)) (Nat.le_refl _)) (Nat.le_refl _)) (Nat.le_refl _)⟩
  · have ha0 : a = 0 := by omega
    have hk0 : ks s.data.toList = 0 := by omega
    subst ha0
    obtain ⟨m, hm⟩ : ∃ m, ofN digitR s.data.toList = m := ⟨_, rfl⟩
    have hms : m ≤ s.size := by rw [← hm, ← HL.out]; exact ofN_len _ _
    have H2 := Lib.hid (of_digit s w1 HT1.out)
    rw [hm] at H2
    have hdp := digit_pos HNE.out
    rw [hm] at hdp
    have HK := Lib.hid hk0
    have HM := Lib.hid hm
    clear hk hpos hm hk0
    go_wp2_with fail
    refine H2.out.mono ?_
    rintro e w2 ⟨rfl, hb2⟩
    have HG2 := Lib.hid (blk_below HG1.out hb2)
    have HB2 := Lib.hid (below_step HB1.out hb2)
    have HT2 := Lib.hid (HT1.out.below hb2)
    clear hb2
    have hlt : w.heap.size < w2.heap.size := blk_lt HG2.out
    obtain ⟨c, hc⟩ : ∃ c : Int, ∀ h : 0 < s.size, ((s[0]'h).toNat : Int) = c := ⟨((s[0]'hs0).toNat : Int), fun _ => rfl⟩
    have hc0 : 0 ≤ c := by have := hc hs0; omega
    have hc1 : c ≤ 255 := by have := hc hs0; have := (s[0]'hs0).toNat_lt; omega
    have hhead : s.data.toList.head? = some (s[0]'hs0) := by
      rw [List.head?_eq_getElem?, List.getElem?_eq_getElem (by rw [HL.out]; exact hs0)]
      rfl
    have HHD := Lib.hid hhead
    clear hhead
    by_cases hd : isD s.data.toList = true
    · have hm0 : 0 < m := hdp.2 hd
      obtain ⟨tx, htx⟩ : ∃ tx, tx = s.extract 0 m := ⟨_, rfl⟩
      have htl : tx.data.toList = s.data.toList.take m := by rw [htx, ext0]
      have hts : tx.size ≤ 281474976710656 := by
        have : tx.size = tx.data.toList.length := by simp
        rw [this, htl, List.length_take, HL.out]
        omega
      have hte : tx = ⟨(s.data.toList.take m).toArray⟩ := by rw [htx, ext0]
      have HTE := Lib.hid hte
      have HTL := Lib.hid htl
      have HTX := Lib.hid htx
      have hdig : ∀ b ∈ s.data.toList.take m, digitR b.toNat = true := by rw [← HM.out]; exact dig_all _ _ (Nat.le_refl _)
      have htne : s.data.toList.take m ≠ [] := by
        intro e
        have := congrArg List.length e
        rw [List.length_take, HL.out, List.length_nil] at this
        omega
      have HPD := Lib.hid (parse_digits htne hdig)
      have HNX := Lib.hid (show next s.data.toList = nextNum s.data.toList by rw [next, if_neg (by rw [HK.out]; omega), if_pos hd])
      have hthd : (s.data.toList.take m).head? = some (s[0]'hs0) := by
        rw [← HHD.out]
        cases s.data.toList with
        | nil => simp
        | cons b t => cases m with
          | zero => omega
          | succ m => simp
      have HTH := Lib.hid hthd
      have HLT := Lib.hid (show (s.data.toList.take m).length = m by rw [List.length_take, HL.out]; omega)
      obtain ⟨v, hv⟩ : ∃ v, valD (s.data.toList.take m) = v := ⟨_, rfl⟩
      rw [hv] at HPD
      have HV := Lib.hid hv
      have hb3 := below_alloc (Below.refl w2.heap.size w2) (.cells #[.int .i64 3, .string tx, .int .i64 0, .int .i64 0] 36)
      have HB3 := Lib.hid hb3
      have hlw2 : w2.heap.size < (w2.alloc (.cells #[.int .i64 3, .string tx, .int .i64 0, .int .i64 0] 36)).heap.size := by rw [alloc_size']; omega
      clear htl hte hts htx hdig htne hthd hv hdp hd
      have hne2 : w.heap.size ≠ w2.heap.size := by omega
      by_cases hv9 : v < 9223372036854775808
      · have HPC := Lib.hid (parse_ok tx v (w2.alloc (.cells #[.int .i64 3, .string tx, .int .i64 0, .int .i64 0] 36)) (by rw [HTL.out, HPD.out, if_pos hv9]) (by
          have : tx.size = tx.data.toList.length := by simp
          rw [this, HTL.out, HLT.out]; omega))
        clear hb3 hlw2
        go_wp2_with fail
        rw [← HTX.out]
        refine HPC.out.mono ?_
        rintro e w4 ⟨rfl, hb4⟩
        have HL5 := Lib.hid (blk_below (blk_new w2 (.cells #[.int .i64 3, .string tx, .int .i64 0, .int .i64 0] 36)) hb4)
        have HG5 := Lib.hid (blk_below HG2.out (below_step HB3.out hb4))
        have HB6 := Lib.hid (below_step HB2.out (below_step HB3.out hb4))
        clear hb4
        by_cases hm1 : 1 < m
        · by_cases h48 : c = 48
          · have e48 : (c == 48) = true := by rw [h48]; decide
            have HCV := Lib.hid hc
            have HRES := Lib.hid (show x = ⟨0, ⟨#[]⟩, 0, 0⟩ by
              rw [← HX.out, tok_none]
              rw [HNX.out, nextNum, HM.out, if_neg]
              rw [numOK, HV.out, HLT.out, HTH.out]
              have hq := HCV.out hs0
              have h8 : s[0]'hs0 = 48 := by rw [← UInt8.toNat_inj]; show _ = 48; omega
              rw [h8]
              simp
              omega)
            have g0 := (blk_cell HG5.out 0).trans rfl
            have gf0 := blk_frozen HG5.out 0
            have g1 := (blk_cell HG5.out 1).trans rfl
            have gf1 := blk_frozen HG5.out 1
            have g2 := (blk_cell HG5.out 2).trans rfl
            have gf2 := blk_frozen HG5.out 2
            have g3 := (blk_cell HG5.out 3).trans rfl
            have gf3 := blk_frozen HG5.out 3
            have gz := blk_lt HG5.out
            go_wp2
            (try simp only [Exit.inBlock, Exit.then])
            exact bodyPost_ret (results_cell_row rfl _ _ w.heap.size 36 #[.int .i64 0, .string ⟨#[]⟩, .int .i64 0, .int .i64 0] (0, 0) _ rfl (blk_put (blk_put (blk_put (blk_put HG5.out 0 _ rfl) 1 _ rfl) 2 _ rfl) 3 _ rfl) Tryd.underlying36 rfl rfl) rfl ⟨ret_tok HRES.out, below_set (below_set (below_set (below_set HB6.out (Nat.le_refl _)) (Nat.le_refl _)) (Nat.le_refl _)) (Nat.le_refl _)⟩
          · have e48 : (c == 48) = false := beq_eq_false_iff_ne.2 h48
            have HCV := Lib.hid hc
            have HRES := Lib.hid (show x = ⟨3, tx, v, 0⟩ by
              rw [← HX.out, tok_some (t := ⟨3, m, v⟩), ← HTE.out]
              rw [HNX.out, nextNum, HM.out, if_pos, HV.out]
              rw [numOK, HV.out, HLT.out, HTH.out, decide_eq_true hv9]
              have hq := HCV.out hs0
              have h8 : s[0]'hs0 ≠ 48 := by
                intro e
                rw [e] at hq
                exact h48 (by rw [← hq]; rfl)
              simp [h8])
            have l0 := (blk_cell HL5.out 0).trans rfl
            have lf0 := blk_frozen HL5.out 0
            have l1 := (blk_cell HL5.out 1).trans rfl
            have lf1 := blk_frozen HL5.out 1
            have l2 := (blk_cell HL5.out 2).trans rfl
            have lf2 := blk_frozen HL5.out 2
            have l3 := (blk_cell HL5.out 3).trans rfl
            have lf3 := blk_frozen HL5.out 3
            have lz := blk_lt HL5.out
            have g0 := (blk_cell HG5.out 0).trans rfl
            have gf0 := blk_frozen HG5.out 0
            have g1 := (blk_cell HG5.out 1).trans rfl
            have gf1 := blk_frozen HG5.out 1
            have g2 := (blk_cell HG5.out 2).trans rfl
            have gf2 := blk_frozen HG5.out 2
            have g3 := (blk_cell HG5.out 3).trans rfl
            have gf3 := blk_frozen HG5.out 3
            have gz := blk_lt HG5.out
            go_wp2
            (try simp only [Exit.inBlock, Exit.then])
            exact bodyPost_ret (results_cell_row rfl _ _ w.heap.size 36 #[.int .i64 3, .string tx, .int .i64 v, .int .i64 0] (0, 0) _ rfl (blk_put (blk_put (blk_put (blk_put ((Below.heap_setCell _ _ _ _ hne2).trans HG5.out) 0 _ rfl) 1 _ rfl) 2 _ rfl) 3 _ rfl) Tryd.underlying36 rfl rfl) rfl ⟨ret_tok HRES.out, below_set (below_set (below_set (below_set (below_set HB6.out (Nat.le_of_lt hlt)) (Nat.le_refl _)) (Nat.le_refl _)) (Nat.le_refl _)) (Nat.le_refl _)⟩
        · have hm11 : m = 1 := by omega
          have HRES := Lib.hid (show x = ⟨3, tx, v, 0⟩ by
            rw [← HX.out, tok_some (t := ⟨3, m, v⟩), ← HTE.out]
            rw [HNX.out, nextNum, HM.out, if_pos, HV.out]
            rw [numOK, HV.out, HLT.out, HTH.out, decide_eq_true hv9]
            simp [hm11])
          have l0 := (blk_cell HL5.out 0).trans rfl
          have lf0 := blk_frozen HL5.out 0
          have l1 := (blk_cell HL5.out 1).trans rfl
          have lf1 := blk_frozen HL5.out 1
          have l2 := (blk_cell HL5.out 2).trans rfl
          have lf2 := blk_frozen HL5.out 2
          have l3 := (blk_cell HL5.out 3).trans rfl
          have lf3 := blk_frozen HL5.out 3
          have lz := blk_lt HL5.out
          have g0 := (blk_cell HG5.out 0).trans rfl
          have gf0 := blk_frozen HG5.out 0
          have g1 := (blk_cell HG5.out 1).trans rfl
          have gf1 := blk_frozen HG5.out 1
          have g2 := (blk_cell HG5.out 2).trans rfl
          have gf2 := blk_frozen HG5.out 2
          have g3 := (blk_cell HG5.out 3).trans rfl
          have gf3 := blk_frozen HG5.out 3
          have gz := blk_lt HG5.out
          go_wp2
          (try simp only [Exit.inBlock, Exit.then])
          exact bodyPost_ret (results_cell_row rfl _ _ w.heap.size 36 #[.int .i64 3, .string tx, .int .i64 v, .int .i64 0] (0, 0) _ rfl (blk_put (blk_put (blk_put (blk_put ((Below.heap_setCell _ _ _ _ hne2).trans HG5.out) 0 _ rfl) 1 _ rfl) 2 _ rfl) 3 _ rfl) Tryd.underlying36 rfl rfl) rfl ⟨ret_tok HRES.out, below_set (below_set (below_set (below_set (below_set HB6.out (Nat.le_of_lt hlt)) (Nat.le_refl _)) (Nat.le_refl _)) (Nat.le_refl _)) (Nat.le_refl _)⟩
      · have HPC := Lib.hid (parse_bad tx (w2.alloc (.cells #[.int .i64 3, .string tx, .int .i64 0, .int .i64 0] 36)) (HT2.out.below hb3) (by rw [HTL.out, HPD.out, if_neg hv9]) (by
          have : tx.size = tx.data.toList.length := by simp
          rw [this, HTL.out, HLT.out]; omega))
        clear hb3 hlw2
        go_wp2_with fail
        rw [← HTX.out]
        refine HPC.out.mono ?_
        rintro e w4 ⟨vv, ty, pp, rfl, hb4⟩
        have HG5 := Lib.hid (blk_below HG2.out (below_step HB3.out hb4))
        have HB6 := Lib.hid (below_step HB2.out (below_step HB3.out hb4))
        clear hb4
        have HRES := Lib.hid (show x = ⟨0, ⟨#[]⟩, 0, 0⟩ by
          rw [← HX.out, tok_none]
          rw [HNX.out, nextNum, HM.out, if_neg]
          rw [numOK, HV.out, HLT.out, HTH.out]
          simp [hv9])
        have g0 := (blk_cell HG5.out 0).trans rfl
        have gf0 := blk_frozen HG5.out 0
        have g1 := (blk_cell HG5.out 1).trans rfl
        have gf1 := blk_frozen HG5.out 1
        have g2 := (blk_cell HG5.out 2).trans rfl
        have gf2 := blk_frozen HG5.out 2
        have g3 := (blk_cell HG5.out 3).trans rfl
        have gf3 := blk_frozen HG5.out 3
        have gz := blk_lt HG5.out
        go_wp2
        (try simp only [Exit.inBlock, Exit.then])
        exact bodyPost_ret (results_cell_row rfl _ _ w.heap.size 36 #[.int .i64 0, .string ⟨#[]⟩, .int .i64 0, .int .i64 0] (0, 0) _ rfl (blk_put (blk_put (blk_put (blk_put HG5.out 0 _ rfl) 1 _ rfl) 2 _ rfl) 3 _ rfl) Tryd.underlying36 rfl rfl) rfl ⟨ret_tok HRES.out, below_set (below_set (below_set (below_set HB6.out (Nat.le_refl _)) (Nat.le_refl _)) (Nat.le_refl _)) (Nat.le_refl _)⟩
    · have hm0 : m = 0 := by have hq : ¬ 0 < m := fun h => hd (hdp.1 h); omega
      subst hm0
      have HNX := Lib.hid (show next s.data.toList = nextSign s.data.toList by rw [next, if_neg (by rw [HK.out]; omega), if_neg hd])
      clear hd hdp
      obtain ⟨W5, hW5⟩ : ∃ W5, W5 = w2.alloc (.cells (sg4.map Value.string).toArray 9) := ⟨_, rfl⟩
      have hC : Kd.string.C W5 (some ⟨w2.heap.size, 0, none⟩) 4 sg4 := strs_C (xs := sg4) (by decide) (by rw [hW5]; exact blk_new _ _)
      have hb5 : Below w2.heap.size w2 W5 := by rw [hW5]; exact below_alloc (Below.refl _ _) _
      have HW5 := Lib.hid (show W5 = w2.alloc (.cells #[.string ⟨#[61, 61]⟩, .string ⟨#[61, 62]⟩, .string ⟨#[45, 62]⟩, .string ⟨#[58, 61]⟩] 9) from hW5)
      have HC5 := Lib.hid hC
      have HG5 := Lib.hid (blk_below HG2.out hb5)
      have HB6 := Lib.hid (below_step HB2.out hb5)
      clear hW5 hC hb5
      go_wp2_with fail
      rw [← HW5.out]
      go_loopg [64] (4) (fun g i wr => ∃ k : Nat, i = .int .i64 k ∧ k ≤ 4 ∧ g = 4 - k ∧ W5 = wr ∧ Hid (∀ j, j < k → hasPrefix s.data.toList (sg4.getD j ByteArray.empty).data.toList = false))
      case atStart => exact ⟨0, rfl, Nat.zero_le _, rfl, rfl, Lib.hid (fun j hj => absurd hj (by omega))⟩
      case round =>
        obtain ⟨k, rfl, hk, rfl, rfl, hall⟩ := hrel
        by_cases hlt4 : k < 4
        · obtain ⟨ad, hA, hcell⟩ := C_str_get HC5.out hlt4
          obtain rfl := Option.some.inj hA
          obtain ⟨sg, hsg⟩ : ∃ sg, sg4.getD k ByteArray.empty = sg := ⟨_, rfl⟩
          rw [Go.Proofs.YtfammikhejjjcaaDoorW.PrintWords.add_plain, hsg] at hcell
          have HSG := Lib.hid hsg
          have HHP := Lib.hid (Tryd.strings_HasPrefix s sg W5)
          obtain ⟨hp, hhp⟩ : ∃ t, hasPrefix s.data.toList sg.data.toList = t := ⟨_, rfl⟩
          rw [hhp] at HHP
          have HHH := Lib.hid hhp
          clear hsg hhp
          cases hp with
          | true =>
            obtain ⟨q1, q2, q3⟩ := sign2_of hlt4 (by rw [HSG.out]; exact HHH.out)
            have HRES := Lib.hid (show x = ⟨4, sg, 0, 0⟩ by
              rw [← HX.out, tok_some (t := ⟨4, 2, 0⟩)]
              · rw [q2, HSG.out]
              · rw [HNX.out, nextSign, if_pos q1])
            clear q1 q2 q3
            have g0 := (blk_cell HG5.out 0).trans rfl
            have gf0 := blk_frozen HG5.out 0
            have g1 := (blk_cell HG5.out 1).trans rfl
            have gf1 := blk_frozen HG5.out 1
            have g2 := (blk_cell HG5.out 2).trans rfl
            have gf2 := blk_frozen HG5.out 2
            have g3 := (blk_cell HG5.out 3).trans rfl
            have gf3 := blk_frozen HG5.out 3
            have gz := blk_lt HG5.out
            go_wp2_with (go_at_call 32; refine HHP.out.mono ?_; rintro e w6 ⟨rfl, rfl⟩)
            (try simp only [Exit.inBlock, Exit.then])
            exact bodyPost_ret (results_cell_row rfl _ _ w.heap.size 36 #[.int .i64 4, .string sg, .int .i64 0, .int .i64 0] (0, 0) _ rfl (blk_put (blk_put (blk_put (blk_put HG5.out 0 _ rfl) 1 _ rfl) 2 _ rfl) 3 _ rfl) Tryd.underlying36 rfl rfl) rfl ⟨ret_tok HRES.out, below_set (below_set (below_set (below_set HB6.out (Nat.le_refl _)) (Nat.le_refl _)) (Nat.le_refl _)) (Nat.le_refl _)⟩
          | false =>
            have HALL := Lib.hid (show ∀ j, j < k + 1 → hasPrefix s.data.toList (sg4.getD j ByteArray.empty).data.toList = false from fun j hj => by
              rcases Nat.lt_or_ge j k with h | h
              · exact hall.out j h
              · obtain rfl : j = k := by omega
                rw [HSG.out]
                exact HHH.out)
            go_wp2_with (go_at_call 32; refine HHP.out.mono ?_; rintro e w6 ⟨rfl, rfl⟩)
            go_roundg (4 - (k + 1))
            case measure => omega
            case rel => exact ⟨k + 1, by go_num, by omega, rfl, rfl, HALL⟩
        · obtain rfl : k = 4 := by omega
          have HS2 := Lib.hid (sign2_not hall.out)
          have HIB := Lib.hid (Tryd.strings_IndexByte ⟨#[40, 41, 91, 93, 123, 125, 60, 62, 44, 59, 58, 64, 33, 61, 43, 45, 42, 47, 37]⟩ c W5)
          obtain ⟨ib, hib⟩ : ∃ i, Lib.indexByte (⟨#[40, 41, 91, 93, 123, 125, 60, 62, 44, 59, 58, 64, 33, 61, 43, 45, 42, 47, 37]⟩ : ByteArray).data.toList c.toNat.toUInt8 = i := ⟨_, rfl⟩
          rw [hib] at HIB
          have HCV := Lib.hid (show c.toNat.toUInt8 = s[0]'hs0 by rw [← hc hs0]; simp)
          have HIBM := Lib.hid (show 0 ≤ ib ↔ sign1 s.data.toList = true by
            rw [← hib, ib_mem, HCV.out]
            have hh := HHD.out
            cases hl : s.data.toList with
            | nil => rw [hl] at hh; cases hh
            | cons b t =>
              rw [hl] at hh
              injection hh with hh
              rw [sign1, decide_eq_true_eq, hh]
              rfl)
          clear hib
          by_cases h0 : 0 ≤ ib
          · have HRES := Lib.hid (show x = ⟨4, s.extract 0 1, 0, 0⟩ by
              rw [← HX.out, tok_some (t := ⟨4, 1, 0⟩), ext0]
              rw [HNX.out, nextSign, if_neg (by rw [HS2.out]; simp), if_pos (HIBM.out.1 h0)])
            have hs1 : 1 ≤ s.size := hs0
            have g0 := (blk_cell HG5.out 0).trans rfl
            have gf0 := blk_frozen HG5.out 0
            have g1 := (blk_cell HG5.out 1).trans rfl
            have gf1 := blk_frozen HG5.out 1
            have g2 := (blk_cell HG5.out 2).trans rfl
            have gf2 := blk_frozen HG5.out 2
            have g3 := (blk_cell HG5.out 3).trans rfl
            have gf3 := blk_frozen HG5.out 3
            have gz := blk_lt HG5.out
            go_wp2_with (go_at_call 19; refine HIB.out.mono ?_; rintro e w6 ⟨rfl, rfl⟩)
            (try simp only [Exit.inBlock, Exit.then])
            exact bodyPost_ret (results_cell_row rfl _ _ w.heap.size 36 #[.int .i64 4, .string (s.extract 0 1), .int .i64 0, .int .i64 0] (0, 0) _ rfl (blk_put (blk_put (blk_put (blk_put HG5.out 0 _ rfl) 1 _ rfl) 2 _ rfl) 3 _ rfl) Tryd.underlying36 rfl rfl) rfl ⟨ret_tok HRES.out, below_set (below_set (below_set (below_set HB6.out (Nat.le_refl _)) (Nat.le_refl _)) (Nat.le_refl _)) (Nat.le_refl _)⟩
          · have HRES := Lib.hid (show x = ⟨0, ⟨#[]⟩, 0, 0⟩ by
              rw [← HX.out, tok_none]
              rw [HNX.out, nextSign, if_neg (by rw [HS2.out]; simp), if_neg (fun h => h0 (HIBM.out.2 h))])
            have g0 := (blk_cell HG5.out 0).trans rfl
            have gf0 := blk_frozen HG5.out 0
            have g1 := (blk_cell HG5.out 1).trans rfl
            have gf1 := blk_frozen HG5.out 1
            have g2 := (blk_cell HG5.out 2).trans rfl
            have gf2 := blk_frozen HG5.out 2
            have g3 := (blk_cell HG5.out 3).trans rfl
            have gf3 := blk_frozen HG5.out 3
            have gz := blk_lt HG5.out
            go_wp2_with (go_at_call 19; refine HIB.out.mono ?_; rintro e w6 ⟨rfl, rfl⟩)
            (try simp only [Exit.inBlock, Exit.then])
            exact bodyPost_ret (results_cell_row rfl _ _ w.heap.size 36 #[.int .i64 0, .string ⟨#[]⟩, .int .i64 0, .int .i64 0] (0, 0) _ rfl (blk_put (blk_put (blk_put (blk_put HG5.out 0 _ rfl) 1 _ rfl) 2 _ rfl) 3 _ rfl) Tryd.underlying36 rfl rfl) rfl ⟨ret_tok HRES.out, below_set (below_set (below_set (below_set HB6.out (Nat.le_refl _)) (Nat.le_refl _)) (Nat.le_refl _)) (Nat.le_refl _)⟩
end Go.Proofs.YtfammikhejjjcaaDoor.Lex
