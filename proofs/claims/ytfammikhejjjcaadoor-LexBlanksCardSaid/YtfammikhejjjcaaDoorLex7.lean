/- The reference's Next at every place of a text. No condition. -/
import Derived.Test.YtfammikhejjjcaaDoorLex6
namespace Go.Proofs.YtfammikhejjjcaaDoor.Lex
set_option linter.unusedVariables false
set_option linter.unusedSimpArgs false
open Go Go.Lib Go.RowKit Go.Proofs.YtfammikhejjjcaaDoorW.PrintWords Go.Proofs.YtfammikhejjjcaaDoor.Aux Go.Proofs.YtfammikhejjjcaaDoor.LatSpec Go.Proofs.YtfammikhejjjcaaDoor.LexSpec Go.Proofs.YtfammikhejjjcaaDoor.Kinds
def NextPost (l : L) (p : Nat) (w : World) (e : Ending) (w' : World) : Prop := ∃ x : T, e = .returned (.tuple #[.agg #[.int .i64 x.f0, .string x.f1, .int .i64 x.f2, .int .i64 x.f3], .bool (next l).isSome]) ∧ (∀ t, next l = some t → x = mkT t l p) ∧ Below w.heap.size w w'
theorem ret_next {v : Value} {a b : Bool} (h : a = b) : Ending.returned (.tuple #[v, .bool a]) = .returned (.tuple #[v, .bool b]) := by rw [h]
theorem tok_name {l : L} {tx : ByteArray} {nm : Bool} {m p : Nat} {K v : Int} {t : Tk} (hte : tx = ⟨(l.take m).toArray⟩) (h : (if nm = true then some (⟨K, m, v⟩ : Tk) else none) = some t) : (⟨K, tx, v, p⟩ : T) = mkT t l p := by
  cases nm with
  | false => cases h
  | true =>
    injection h with h
    subst h
    rw [hte]
    rfl
set_option maxRecDepth 100000 in
set_option maxHeartbeats 3200000 in
theorem refnext_name (s : ByteArray) (p : Nat) (w : World) (hp : p < s.size) (hs : s.size ≤ 281474976710656) (hkk : 0 < ks (s.data.toList.drop p)) :
    Calls Tryd.prog 22 #[.string s, .int .i64 p] w (NextPost (s.data.toList.drop p) p w) := by
  have hl : s.data.toList.length = s.size := by simp
  have HL := Lib.hid hl
  have hdl : (s.data.toList.drop p).length = s.size - p := by rw [List.length_drop, hl]
  have HDL := Lib.hid hdl
  have hne : s.data.toList.drop p ≠ [] := by intro e; rw [e] at hdl; simp at hdl; omega
  have HNE := Lib.hid hne
  obtain ⟨W0, hW0⟩ : ∃ W0, W0 = (w.alloc (.cells #[.int .i64 0, .string ⟨#[]⟩, .int .i64 0, .int .i64 0] 43)).alloc (.cells #[.int .i64 0, .string ⟨#[]⟩, .int .i64 0, .int .i64 p] 43) := ⟨_, rfl⟩
  have hz0 : (w.alloc (.cells #[.int .i64 0, .string ⟨#[]⟩, .int .i64 0, .int .i64 0] 43)).heap.size = w.heap.size + 1 := alloc_size' _ _
  have HG0 : Hid (W0.heap[w.heap.size]? = some (.cells #[.int .i64 0, .string ⟨#[]⟩, .int .i64 0, .int .i64 0] 43 (0, 0))) := Lib.hid (by rw [hW0]; exact blk_alloc (blk_new _ _) _)
  have HL0 : Hid (W0.heap[w.heap.size + 1]? = some (.cells #[.int .i64 0, .string ⟨#[]⟩, .int .i64 0, .int .i64 p] 43 (0, 0))) := Lib.hid (by rw [hW0, ← hz0]; exact blk_new _ _)
  have HB0 : Hid (Below w.heap.size w W0) := Lib.hid (by rw [hW0]; exact below_alloc (below_alloc (Below.refl _ _) _) _)
  have HW0 := Lib.hid hW0
  have HLT := Lib.hid (fun W => refletter_calls s p W (by omega) hs)
  obtain ⟨k, hk⟩ : ∃ k, ks (s.data.toList.drop p) = k := ⟨_, rfl⟩
  rw [hk] at HLT hkk
  have hk0 : 0 < k := hkk
  clear hkk
  have HK := Lib.hid hk
  obtain ⟨N, hN⟩ : ∃ N, next (s.data.toList.drop p) = N := ⟨_, rfl⟩
  have HN := Lib.hid hN
  have HPOST := Lib.hid (show ∀ e w', (∃ x : T, e = .returned (.tuple #[.agg #[.int .i64 x.f0, .string x.f1, .int .i64 x.f2, .int .i64 x.f3], .bool N.isSome]) ∧ (∀ t, N = some t → x = mkT t (s.data.toList.drop p) p) ∧ Below w.heap.size w w') → NextPost (s.data.toList.drop p) p w e w' from fun e w' h => by
    obtain ⟨x, h1, h2, h3⟩ := h
    exact ⟨x, by rw [hN]; exact h1, fun t ht => h2 t (by rw [← hN]; exact ht), h3⟩)
  clear hl hdl hne hW0 hk hN hz0
  refine Calls.mono ?_ HPOST.out
  go_enter Tryd.func22, Tryd.ntmps22
  go_wp2_with fail
  rw [← HW0.out]
  refine (HLT.out W0).mono ?_
  rintro e w1 ⟨rfl, rfl⟩
  obtain ⟨m, hm⟩ : ∃ m, ofN wordP (s.data.toList.drop p) = m := ⟨_, rfl⟩
  have hms : p + m ≤ s.size := by have := ofN_len wordP (s.data.toList.drop p); rw [hm, HDL.out] at this; omega
  have HNC := Lib.hid (refname_calls s p W0 (by omega) hs)
  rw [hm] at HNC
  have HM := Lib.hid hm
  obtain ⟨tx, htx⟩ : ∃ tx, tx = s.extract p (p + m) := ⟨_, rfl⟩
  have hsl := fun wx => slice_pk s p m hms wx
  rw [← htx] at hsl
  have htl : tx.data.toList = (s.data.toList.drop p).take m := by rw [htx, extM, show p + m - p = m by omega]
  have hts : tx.size ≤ 9223372036854775807 := by rw [ba_size, htl, List.length_take, HDL.out]; omega
  have HTE := Lib.hid (show tx = ⟨((s.data.toList.drop p).take m).toArray⟩ from ba_ext htl)
  obtain ⟨nm, hnm⟩ : ∃ t, nameR ((s.data.toList.drop p).take m) = t := ⟨_, rfl⟩
  obtain ⟨kw, hkw⟩ : ∃ t, isKw ((s.data.toList.drop p).take m) = t := ⟨_, rfl⟩
  have HKW := Lib.hid (fun W => refkeyword_calls tx kw W (by rw [htl]; exact hkw))
  have HNM := Lib.hid (show ∀ W, Calls Tryd.prog 35 #[.string tx] W fun e w' => e = .returned (.bool nm) ∧ W = w' from fun W => by
    have := RefName.name_calls tx W hts
    rwa [htl, ← name_eq, hnm] at this)
  have HNX := Lib.hid (show N = if nm = true then some ⟨if kw = true then 2 else 1, m, 0⟩ else none by
    rw [← HN.out, next, if_pos (by rw [HK.out]; exact hk0), nextName, hm, hnm, hkw])
  clear hm htx htl hnm hkw hts
  have l0 := (blk_cell HL0.out 0).trans rfl
  have lf0 := blk_frozen HL0.out 0
  have l1 := (blk_cell HL0.out 1).trans rfl
  have lf1 := blk_frozen HL0.out 1
  have l2 := (blk_cell HL0.out 2).trans rfl
  have lf2 := blk_frozen HL0.out 2
  have l3 := (blk_cell HL0.out 3).trans rfl
  have lf3 := blk_frozen HL0.out 3
  have lz := blk_lt HL0.out
  go_wp2_with fail
  refine HNC.out.mono ?_
  rintro e w2 ⟨rfl, rfl⟩
  go_wp2_with fail
  obtain ⟨W1, hW1⟩ : ∃ W1, W1 = ((W0.setCell ⟨w.heap.size + 1, 1, none⟩ (.string tx)).setCell ⟨w.heap.size + 1, 0, none⟩ (.int .i64 1)) := ⟨_, rfl⟩
  have hne2 : w.heap.size ≠ w.heap.size + 1 := by omega
  have HL1 : Hid (W1.heap[w.heap.size + 1]? = some (.cells #[.int .i64 1, .string tx, .int .i64 0, .int .i64 p] 43 (0, 0))) := Lib.hid (by rw [hW1]; exact blk_put (blk_put HL0.out 1 _ rfl) 0 _ rfl)
  have HG1 : Hid (W1.heap[w.heap.size]? = some (.cells #[.int .i64 0, .string ⟨#[]⟩, .int .i64 0, .int .i64 0] 43 (0, 0))) := Lib.hid (by rw [hW1]; exact (Below.heap_setCell _ _ _ _ hne2).trans ((Below.heap_setCell _ _ _ _ hne2).trans HG0.out))
  have HB1 : Hid (Below w.heap.size w W1) := Lib.hid (by rw [hW1]; exact below_set (below_set HB0.out (Nat.le_succ _)) (Nat.le_succ _))
  rw [← hW1]
  clear hW1
  clear l0 lf0 l1 lf1 l2 lf2 l3 lf3 lz
  refine (HKW.out W1).mono ?_
  rintro e w3 ⟨rfl, hb3⟩
  have HL3 := Lib.hid (blk_below HL1.out hb3)
  have HG3 := Lib.hid (blk_below HG1.out hb3)
  have HB3 := Lib.hid (below_step HB1.out hb3)
  clear hb3
  cases kw with
  | false =>
    have hret : Ending.returned (.tuple #[.agg #[.int .i64 1, .string tx, .int .i64 0, .int .i64 p], .bool nm]) = .returned (.tuple #[.agg #[.int .i64 1, .string tx, .int .i64 0, .int .i64 p], .bool N.isSome]) := ret_next (by rw [HNX.out]; cases nm <;> rfl)
    have hnx : ∀ t, N = some t → (⟨1, tx, 0, p⟩ : T) = mkT t (s.data.toList.drop p) p := fun t ht => tok_name (K := 1) (v := 0) HTE.out (show (if nm = true then some (⟨1, m, 0⟩ : Tk) else none) = some t from HNX.out.symm.trans ht)
    have HRET := Lib.hid hret
    have HNXX := Lib.hid hnx
    clear hret hnx
    have l0 := (blk_cell HL3.out 0).trans rfl
    have lf0 := blk_frozen HL3.out 0
    have l1 := (blk_cell HL3.out 1).trans rfl
    have lf1 := blk_frozen HL3.out 1
    have l2 := (blk_cell HL3.out 2).trans rfl
    have lf2 := blk_frozen HL3.out 2
    have l3 := (blk_cell HL3.out 3).trans rfl
    have lf3 := blk_frozen HL3.out 3
    have lz := blk_lt HL3.out
    have g0 := (blk_cell HG3.out 0).trans rfl
    have gf0 := blk_frozen HG3.out 0
    have g1 := (blk_cell HG3.out 1).trans rfl
    have gf1 := blk_frozen HG3.out 1
    have g2 := (blk_cell HG3.out 2).trans rfl
    have gf2 := blk_frozen HG3.out 2
    have g3 := (blk_cell HG3.out 3).trans rfl
    have gf3 := blk_frozen HG3.out 3
    have gz := blk_lt HG3.out
    go_wp2_with fail
    go_region_with (go_at_call 35; refine (HNM.out _).mono ?_; rintro e w5 ⟨rfl, rfl⟩)
    all_goals
      go_wp2
      (try simp only [Exit.inBlock, Exit.then])
      refine bodyPost_ret (results_ct rfl _ _ w.heap.size 43 #[.int .i64 1, .string tx, .int .i64 0, .int .i64 p] (0, 0) _ rfl (blk_put (blk_put (blk_put (blk_put HG3.out 0 _ rfl) 1 _ rfl) 2 _ rfl) 3 _ rfl) Tryd.underlying43 rfl rfl) rfl ?_
      refine ⟨⟨1, tx, 0, p⟩, HRET.out, HNXX.out, ?_⟩
      repeat' (first | exact HB3.out | refine Below.drew ?_ | refine below_set ?_ (by omega))
  | true =>
    have l0 := (blk_cell HL3.out 0).trans rfl
    have lf0 := blk_frozen HL3.out 0
    have l1 := (blk_cell HL3.out 1).trans rfl
    have lf1 := blk_frozen HL3.out 1
    have l2 := (blk_cell HL3.out 2).trans rfl
    have lf2 := blk_frozen HL3.out 2
    have l3 := (blk_cell HL3.out 3).trans rfl
    have lf3 := blk_frozen HL3.out 3
    have lz := blk_lt HL3.out
    go_wp2_with fail
    obtain ⟨W4, hW4⟩ : ∃ W4, W4 = w3.setCell ⟨w.heap.size + 1, 0, none⟩ (.int .i64 2) := ⟨_, rfl⟩
    have HL4 : Hid (W4.heap[w.heap.size + 1]? = some (.cells #[.int .i64 2, .string tx, .int .i64 0, .int .i64 p] 43 (0, 0))) := Lib.hid (by rw [hW4]; exact blk_put HL3.out 0 _ rfl)
    have HG4 : Hid (W4.heap[w.heap.size]? = some (.cells #[.int .i64 0, .string ⟨#[]⟩, .int .i64 0, .int .i64 0] 43 (0, 0))) := Lib.hid (by rw [hW4]; exact (Below.heap_setCell _ _ _ _ hne2).trans HG3.out)
    have HB4 : Hid (Below w.heap.size w W4) := Lib.hid (by rw [hW4]; exact below_set HB3.out (Nat.le_succ _))
    rw [← hW4]
    clear hW4
    clear l0 lf0 l1 lf1 l2 lf2 l3 lf3 lz
    have hret : Ending.returned (.tuple #[.agg #[.int .i64 2, .string tx, .int .i64 0, .int .i64 p], .bool nm]) = .returned (.tuple #[.agg #[.int .i64 2, .string tx, .int .i64 0, .int .i64 p], .bool N.isSome]) := ret_next (by rw [HNX.out]; cases nm <;> rfl)
    have hnx : ∀ t, N = some t → (⟨2, tx, 0, p⟩ : T) = mkT t (s.data.toList.drop p) p := fun t ht => tok_name (K := 2) (v := 0) HTE.out (show (if nm = true then some (⟨2, m, 0⟩ : Tk) else none) = some t from HNX.out.symm.trans ht)
    have HRET := Lib.hid hret
    have HNXX := Lib.hid hnx
    clear hret hnx
    have l0 := (blk_cell HL4.out 0).trans rfl
    have lf0 := blk_frozen HL4.out 0
    have l1 := (blk_cell HL4.out 1).trans rfl
    have lf1 := blk_frozen HL4.out 1
    have l2 := (blk_cell HL4.out 2).trans rfl
    have lf2 := blk_frozen HL4.out 2
    have l3 := (blk_cell HL4.out 3).trans rfl
    have lf3 := blk_frozen HL4.out 3
    have lz := blk_lt HL4.out
    have g0 := (blk_cell HG4.out 0).trans rfl
    have gf0 := blk_frozen HG4.out 0
    have g1 := (blk_cell HG4.out 1).trans rfl
    have gf1 := blk_frozen HG4.out 1
    have g2 := (blk_cell HG4.out 2).trans rfl
    have gf2 := blk_frozen HG4.out 2
    have g3 := (blk_cell HG4.out 3).trans rfl
    have gf3 := blk_frozen HG4.out 3
    have gz := blk_lt HG4.out
    go_wp2_with fail
    go_region_with (go_at_call 35; refine (HNM.out _).mono ?_; rintro e w5 ⟨rfl, rfl⟩)
    all_goals
      go_wp2
      (try simp only [Exit.inBlock, Exit.then])
      refine bodyPost_ret (results_ct rfl _ _ w.heap.size 43 #[.int .i64 2, .string tx, .int .i64 0, .int .i64 p] (0, 0) _ rfl (blk_put (blk_put (blk_put (blk_put HG4.out 0 _ rfl) 1 _ rfl) 2 _ rfl) 3 _ rfl) Tryd.underlying43 rfl rfl) rfl ?_
      refine ⟨⟨2, tx, 0, p⟩, HRET.out, HNXX.out, ?_⟩
      repeat' (first | exact HB4.out | refine Below.drew ?_ | refine below_set ?_ (by omega))
set_option maxRecDepth 100000 in
set_option maxHeartbeats 3200000 in
theorem refnext_dig (s : ByteArray) (p : Nat) (w : World) (hp : p < s.size) (hs : s.size ≤ 281474976710656) (hkk : ks (s.data.toList.drop p) = 0) (hd : isD (s.data.toList.drop p) = true) :
    Calls Tryd.prog 22 #[.string s, .int .i64 p] w (NextPost (s.data.toList.drop p) p w) := by
  have hl : s.data.toList.length = s.size := by simp
  have HL := Lib.hid hl
  have hdl : (s.data.toList.drop p).length = s.size - p := by rw [List.length_drop, hl]
  have HDL := Lib.hid hdl
  have hne : s.data.toList.drop p ≠ [] := by intro e; rw [e] at hdl; simp at hdl; omega
  have HNE := Lib.hid hne
  obtain ⟨W0, hW0⟩ : ∃ W0, W0 = (w.alloc (.cells #[.int .i64 0, .string ⟨#[]⟩, .int .i64 0, .int .i64 0] 43)).alloc (.cells #[.int .i64 0, .string ⟨#[]⟩, .int .i64 0, .int .i64 p] 43) := ⟨_, rfl⟩
  have hz0 : (w.alloc (.cells #[.int .i64 0, .string ⟨#[]⟩, .int .i64 0, .int .i64 0] 43)).heap.size = w.heap.size + 1 := alloc_size' _ _
  have HG0 : Hid (W0.heap[w.heap.size]? = some (.cells #[.int .i64 0, .string ⟨#[]⟩, .int .i64 0, .int .i64 0] 43 (0, 0))) := Lib.hid (by rw [hW0]; exact blk_alloc (blk_new _ _) _)
  have HL0 : Hid (W0.heap[w.heap.size + 1]? = some (.cells #[.int .i64 0, .string ⟨#[]⟩, .int .i64 0, .int .i64 p] 43 (0, 0))) := Lib.hid (by rw [hW0, ← hz0]; exact blk_new _ _)
  have HB0 : Hid (Below w.heap.size w W0) := Lib.hid (by rw [hW0]; exact below_alloc (below_alloc (Below.refl _ _) _) _)
  have HW0 := Lib.hid hW0
  have HLT := Lib.hid (fun W => refletter_calls s p W (by omega) hs)
  obtain ⟨k, hk⟩ : ∃ k, ks (s.data.toList.drop p) = k := ⟨_, rfl⟩
  rw [hk] at HLT
  have hk1 : k = 0 := hk.symm.trans hkk
  clear hkk
  have HK := Lib.hid hk
  obtain ⟨N, hN⟩ : ∃ N, next (s.data.toList.drop p) = N := ⟨_, rfl⟩
  have HN := Lib.hid hN
  have HPOST := Lib.hid (show ∀ e w', (∃ x : T, e = .returned (.tuple #[.agg #[.int .i64 x.f0, .string x.f1, .int .i64 x.f2, .int .i64 x.f3], .bool N.isSome]) ∧ (∀ t, N = some t → x = mkT t (s.data.toList.drop p) p) ∧ Below w.heap.size w w') → NextPost (s.data.toList.drop p) p w e w' from fun e w' h => by
    obtain ⟨x, h1, h2, h3⟩ := h
    exact ⟨x, by rw [hN]; exact h1, fun t ht => h2 t (by rw [← hN]; exact ht), h3⟩)
  clear hl hdl hne hW0 hk hN hz0
  refine Calls.mono ?_ HPOST.out
  go_enter Tryd.func22, Tryd.ntmps22
  go_wp2_with fail
  rw [← HW0.out]
  refine (HLT.out W0).mono ?_
  rintro e w1 ⟨rfl, rfl⟩
  have HDC := Lib.hid (fun q (hq : q ≤ s.size) t ht => refdigit_calls s q t W0 (by omega) ht)
  have hof := LexSpec.of_digit HNE.out
  have HD1 := Lib.hid (HDC.out p (by omega) true hd)
  have hne2 : w.heap.size ≠ w.heap.size + 1 := by omega
  obtain ⟨m, hm⟩ : ∃ m, ofN digitR (s.data.toList.drop p) = m := ⟨_, rfl⟩
  have hms : p + m ≤ s.size := by have := ofN_len digitR (s.data.toList.drop p); rw [hm, HDL.out] at this; omega
  have hm1 : 1 ≤ m := by rw [hm, hd] at hof; simp at hof; omega
  have hdig : ∀ b ∈ (s.data.toList.drop p).take m, digitR b.toNat = true := by rw [← hm]; exact dig_all _ _ (Nat.le_refl _)
  obtain ⟨tx, htx⟩ : ∃ tx, tx = s.extract p (p + m) := ⟨_, rfl⟩
  have htl : tx.data.toList = (s.data.toList.drop p).take m := by rw [htx, extM, show p + m - p = m by omega]
  have htz : tx.size = m := by rw [ba_size, htl, List.length_take, HDL.out]; omega
  have HTE := Lib.hid (show tx = ⟨((s.data.toList.drop p).take m).toArray⟩ from ba_ext htl)
  obtain ⟨ok, hok⟩ : ∃ t, numOK tx.data.toList = t := ⟨_, rfl⟩
  have HNUM := Lib.hid (number_calls tx ok W0 (by omega) (by omega) (by rw [htl]; exact hdig) hok)
  have HNX := Lib.hid (show N = if ok = true then some ⟨3, m, (valD tx.data.toList : Int)⟩ else none by
    rw [← HN.out, next, if_neg (by rw [HK.out, hk1]; omega), if_pos hd, nextNum, hm, ← htl, hok])
  have HM := Lib.hid (show p + m = p + ofN digitR (s.data.toList.drop p) by rw [hm])
  have HTX := Lib.hid htx
  clear hof hd hm hdig htx htl hok
  go_wp2_with (go_at_call 36; refine HD1.out.mono ?_; rintro e w2 ⟨rfl, rfl⟩)
  go_loopg [7] (s.size - p) (fun g i wr => ∃ q : Nat, i = .int .i64 q ∧ p ≤ q ∧ q ≤ s.size ∧ g = s.size - q ∧ W0 = wr ∧ Hid (p + m = q + ofN digitR (s.data.toList.drop q)))
  case atStart => exact ⟨p, rfl, Nat.le_refl _, by omega, rfl, rfl, HM⟩
  case round =>
    obtain ⟨q, rfl, hpq, hq, rfl, rfl, hres⟩ := hrel
    obtain ⟨d2, hd2⟩ : ∃ t, isD (s.data.toList.drop q) = t := ⟨_, rfl⟩
    have HD2 := Lib.hid (HDC.out q hq d2 hd2)
    cases d2 with
    | true =>
      have hlt : q < s.size := by
        have h1 := isD_len hd2
        rw [List.length_drop, HL.out] at h1
        omega
      have HRN := Lib.hid (show p + m = (q + 1) + ofN digitR (s.data.toList.drop (q + 1)) by
        have hnq : s.data.toList.drop q ≠ [] := by intro e; rw [e] at hd2; cases hd2
        rw [hres.out, LexSpec.of_digit hnq, if_pos hd2, List.drop_drop]
        omega)
      clear hd2
      go_wp2_with (go_at_call 36; refine HD2.out.mono ?_; rintro e w2 ⟨rfl, rfl⟩)
      go_roundg (s.size - (q + 1))
      case measure => omega
      case rel => exact ⟨q + 1, by go_num, by omega, by omega, rfl, rfl, HRN⟩
    | false =>
      have hqm : q = p + m := by
        rw [hres.out]
        by_cases hnq : s.data.toList.drop q = []
        · rw [hnq, ofN_nil]; rfl
        · rw [LexSpec.of_digit hnq, hd2]; simp
      subst hqm
      have hsl : ∀ wx, (Instr.slice 9 (.string s) (some (.int .i64 (p : Int))) (some (.int .i64 ((p : Int) + m))) none).run Tryd.prog wx = .ok (.string tx) wx := fun wx => by rw [HTX.out]; exact slice_pk s p m hms wx
      clear hd2
      go_wp2_with (first | (go_at_call 36; refine HD2.out.mono ?_; rintro e w2 ⟨rfl, rfl⟩))
      refine HNUM.out.mono ?_
      rintro e w3 ⟨⟨n, rfl, hn⟩, hb3⟩
      have HL3 := Lib.hid (blk_below HL0.out hb3)
      have HG3 := Lib.hid (blk_below HG0.out hb3)
      have HB3 := Lib.hid (below_step HB0.out hb3)
      have HNN := Lib.hid hn
      clear hb3 hn
      have l0 := (blk_cell HL3.out 0).trans rfl
      have lf0 := blk_frozen HL3.out 0
      have l1 := (blk_cell HL3.out 1).trans rfl
      have lf1 := blk_frozen HL3.out 1
      have l2 := (blk_cell HL3.out 2).trans rfl
      have lf2 := blk_frozen HL3.out 2
      have l3 := (blk_cell HL3.out 3).trans rfl
      have lf3 := blk_frozen HL3.out 3
      have lz := blk_lt HL3.out
      have g0 := (blk_cell HG3.out 0).trans rfl
      have gf0 := blk_frozen HG3.out 0
      have g1 := (blk_cell HG3.out 1).trans rfl
      have gf1 := blk_frozen HG3.out 1
      have g2 := (blk_cell HG3.out 2).trans rfl
      have gf2 := blk_frozen HG3.out 2
      have g3 := (blk_cell HG3.out 3).trans rfl
      have gf3 := blk_frozen HG3.out 3
      have gz := blk_lt HG3.out
      go_wp2
      (try simp only [Exit.inBlock, Exit.then])
      have hblk := blk_put (blk_put (blk_put (blk_put ((Below.heap_setCell (((w3.setCell ⟨w.heap.size + 1, 0, none⟩ (.int .i64 3)).setCell ⟨w.heap.size + 1, 1, none⟩ (.string tx))) ⟨w.heap.size + 1, 2, none⟩ (.int .i64 n) w.heap.size hne2).trans ((Below.heap_setCell _ _ _ _ hne2).trans ((Below.heap_setCell _ _ _ _ hne2).trans HG3.out))) 0 (.int .i64 3) rfl) 1 (.string tx) rfl) 2 (.int .i64 n) rfl) 3 (.int .i64 p) rfl
      have hpost : ∃ x : T, Ending.returned (.tuple #[.agg #[.int .i64 3, .string tx, .int .i64 n, .int .i64 p], .bool ok]) = .returned (.tuple #[.agg #[.int .i64 x.f0, .string x.f1, .int .i64 x.f2, .int .i64 x.f3], .bool N.isSome]) ∧ (∀ t, N = some t → x = mkT t (s.data.toList.drop p) p) ∧ Below w.heap.size w (((((((w3.setCell ⟨w.heap.size + 1, 0, none⟩ (.int .i64 3)).setCell ⟨w.heap.size + 1, 1, none⟩ (.string tx)).setCell ⟨w.heap.size + 1, 2, none⟩ (.int .i64 n)).setCell ⟨w.heap.size, 0, none⟩ (.int .i64 3)).setCell ⟨w.heap.size, 1, none⟩ (.string tx)).setCell ⟨w.heap.size, 2, none⟩ (.int .i64 n)).setCell ⟨w.heap.size, 3, none⟩ (.int .i64 p)) := by
        refine ⟨⟨3, tx, n, p⟩, ret_next ?_, fun t ht => ?_, ?_⟩
        · rw [HNX.out]
          cases ok <;> rfl
        · rw [HNX.out] at ht
          cases hok : ok with
          | false => rw [hok] at ht; simp at ht
          | true =>
            have hn := HNN.out hok
            rw [hok] at ht
            rw [hn]
            exact tok_name (nm := true) HTE.out ht
        · exact below_set (below_set (below_set (below_set (below_set (below_set (below_set HB3.out (Nat.le_succ _)) (Nat.le_succ _)) (Nat.le_succ _)) (Nat.le_refl _)) (Nat.le_refl _)) (Nat.le_refl _)) (Nat.le_refl _)
      refine bodyPost_ret (results_ct rfl _ _ w.heap.size 43 #[.int .i64 3, .string tx, .int .i64 n, .int .i64 p] (0, 0) _ rfl hblk Tryd.underlying43 rfl rfl) rfl ?_
      exact hpost
set_option maxRecDepth 100000 in
set_option maxHeartbeats 3200000 in
theorem refnext_sgn (s : ByteArray) (p : Nat) (w : World) (hp : p < s.size) (hs : s.size ≤ 281474976710656) (hkk : ks (s.data.toList.drop p) = 0) (hd : isD (s.data.toList.drop p) = false) :
    Calls Tryd.prog 22 #[.string s, .int .i64 p] w (NextPost (s.data.toList.drop p) p w) := by
  have hl : s.data.toList.length = s.size := by simp
  have HL := Lib.hid hl
  have hdl : (s.data.toList.drop p).length = s.size - p := by rw [List.length_drop, hl]
  have HDL := Lib.hid hdl
  have hne : s.data.toList.drop p ≠ [] := by intro e; rw [e] at hdl; simp at hdl; omega
  have HNE := Lib.hid hne
  obtain ⟨W0, hW0⟩ : ∃ W0, W0 = (w.alloc (.cells #[.int .i64 0, .string ⟨#[]⟩, .int .i64 0, .int .i64 0] 43)).alloc (.cells #[.int .i64 0, .string ⟨#[]⟩, .int .i64 0, .int .i64 p] 43) := ⟨_, rfl⟩
  have hz0 : (w.alloc (.cells #[.int .i64 0, .string ⟨#[]⟩, .int .i64 0, .int .i64 0] 43)).heap.size = w.heap.size + 1 := alloc_size' _ _
  have HG0 : Hid (W0.heap[w.heap.size]? = some (.cells #[.int .i64 0, .string ⟨#[]⟩, .int .i64 0, .int .i64 0] 43 (0, 0))) := Lib.hid (by rw [hW0]; exact blk_alloc (blk_new _ _) _)
  have HL0 : Hid (W0.heap[w.heap.size + 1]? = some (.cells #[.int .i64 0, .string ⟨#[]⟩, .int .i64 0, .int .i64 p] 43 (0, 0))) := Lib.hid (by rw [hW0, ← hz0]; exact blk_new _ _)
  have HB0 : Hid (Below w.heap.size w W0) := Lib.hid (by rw [hW0]; exact below_alloc (below_alloc (Below.refl _ _) _) _)
  have HW0 := Lib.hid hW0
  have HLT := Lib.hid (fun W => refletter_calls s p W (by omega) hs)
  obtain ⟨k, hk⟩ : ∃ k, ks (s.data.toList.drop p) = k := ⟨_, rfl⟩
  rw [hk] at HLT
  have hk1 : k = 0 := hk.symm.trans hkk
  clear hkk
  have HK := Lib.hid hk
  obtain ⟨N, hN⟩ : ∃ N, next (s.data.toList.drop p) = N := ⟨_, rfl⟩
  have HN := Lib.hid hN
  have HPOST := Lib.hid (show ∀ e w', (∃ x : T, e = .returned (.tuple #[.agg #[.int .i64 x.f0, .string x.f1, .int .i64 x.f2, .int .i64 x.f3], .bool N.isSome]) ∧ (∀ t, N = some t → x = mkT t (s.data.toList.drop p) p) ∧ Below w.heap.size w w') → NextPost (s.data.toList.drop p) p w e w' from fun e w' h => by
    obtain ⟨x, h1, h2, h3⟩ := h
    exact ⟨x, by rw [hN]; exact h1, fun t ht => h2 t (by rw [← hN]; exact ht), h3⟩)
  clear hl hdl hne hW0 hk hN hz0
  refine Calls.mono ?_ HPOST.out
  go_enter Tryd.func22, Tryd.ntmps22
  go_wp2_with fail
  rw [← HW0.out]
  refine (HLT.out W0).mono ?_
  rintro e w1 ⟨rfl, rfl⟩
  have HDC := Lib.hid (fun q (hq : q ≤ s.size) t ht => refdigit_calls s q t W0 (by omega) ht)
  have hof := LexSpec.of_digit HNE.out
  have HD1 := Lib.hid (HDC.out p (by omega) false hd)
  have hne2 : w.heap.size ≠ w.heap.size + 1 := by omega
  obtain ⟨r, hr⟩ : ∃ r, signN (s.data.toList.drop p) = r := ⟨_, rfl⟩
  have HSC := Lib.hid (sign_calls s p W0 hp hs)
  rw [hr] at HSC
  have hrl : p + r ≤ s.size := by
    rw [← hr, signN]
    split
    · rename_i h; have := sign2_len h; rw [HDL.out] at this; omega
    · split <;> omega
  obtain ⟨tx, htx⟩ : ∃ tx, tx = s.extract p (p + r) := ⟨_, rfl⟩
  have hsl := fun wx => slice_pk s p r hrl wx
  rw [← htx] at hsl
  have HTE := Lib.hid (show tx = ⟨((s.data.toList.drop p).take r).toArray⟩ from ba_ext (by rw [htx, extM, show p + r - p = r by omega]))
  have HNX := Lib.hid (show N = if decide (0 < r) = true then some ⟨4, r, 0⟩ else none by
    rw [← HN.out, next, if_neg (by rw [HK.out, hk1]; omega), if_neg (by rw [hd]; simp), nextSign, ← hr, signN]
    split
    · rfl
    · split <;> rfl)
  clear hof hd hr htx
  go_wp2_with (first | (go_at_call 36; refine HD1.out.mono ?_; rintro e w2 ⟨rfl, rfl⟩))
  refine HSC.out.mono ?_
  rintro e w3 ⟨rfl, hb3⟩
  have HL3 := Lib.hid (blk_below HL0.out hb3)
  have HG3 := Lib.hid (blk_below HG0.out hb3)
  have HB3 := Lib.hid (below_step HB0.out hb3)
  clear hb3
  have l0 := (blk_cell HL3.out 0).trans rfl
  have lf0 := blk_frozen HL3.out 0
  have l1 := (blk_cell HL3.out 1).trans rfl
  have lf1 := blk_frozen HL3.out 1
  have l2 := (blk_cell HL3.out 2).trans rfl
  have lf2 := blk_frozen HL3.out 2
  have l3 := (blk_cell HL3.out 3).trans rfl
  have lf3 := blk_frozen HL3.out 3
  have lz := blk_lt HL3.out
  have g0 := (blk_cell HG3.out 0).trans rfl
  have gf0 := blk_frozen HG3.out 0
  have g1 := (blk_cell HG3.out 1).trans rfl
  have gf1 := blk_frozen HG3.out 1
  have g2 := (blk_cell HG3.out 2).trans rfl
  have gf2 := blk_frozen HG3.out 2
  have g3 := (blk_cell HG3.out 3).trans rfl
  have gf3 := blk_frozen HG3.out 3
  have gz := blk_lt HG3.out
  go_wp2
  (try simp only [Exit.inBlock, Exit.then])
  have hblk := blk_put (blk_put (blk_put (blk_put ((Below.heap_setCell (w3.setCell ⟨w.heap.size + 1, 0, none⟩ (.int .i64 4)) ⟨w.heap.size + 1, 1, none⟩ (.string tx) w.heap.size hne2).trans ((Below.heap_setCell _ _ _ _ hne2).trans HG3.out)) 0 (.int .i64 4) rfl) 1 (.string tx) rfl) 2 (.int .i64 0) rfl) 3 (.int .i64 p) rfl
  have hpost : ∃ x : T, Ending.returned (.tuple #[.agg #[.int .i64 4, .string tx, .int .i64 0, .int .i64 p], .bool (decide (0 < r))]) = .returned (.tuple #[.agg #[.int .i64 x.f0, .string x.f1, .int .i64 x.f2, .int .i64 x.f3], .bool N.isSome]) ∧ (∀ t, N = some t → x = mkT t (s.data.toList.drop p) p) ∧ Below w.heap.size w ((((((w3.setCell ⟨w.heap.size + 1, 0, none⟩ (.int .i64 4)).setCell ⟨w.heap.size + 1, 1, none⟩ (.string tx)).setCell ⟨w.heap.size, 0, none⟩ (.int .i64 4)).setCell ⟨w.heap.size, 1, none⟩ (.string tx)).setCell ⟨w.heap.size, 2, none⟩ (.int .i64 0)).setCell ⟨w.heap.size, 3, none⟩ (.int .i64 p)) := by
    refine ⟨⟨4, tx, 0, p⟩, ret_next ?_, fun t ht => ?_, ?_⟩
    · rw [HNX.out]
      cases decide (0 < r) <;> rfl
    · rw [HNX.out] at ht
      exact tok_name HTE.out ht
    · exact below_set (below_set (below_set (below_set (below_set (below_set HB3.out (Nat.le_succ _)) (Nat.le_succ _)) (Nat.le_refl _)) (Nat.le_refl _)) (Nat.le_refl _)) (Nat.le_refl _)
  refine bodyPost_ret (results_ct rfl _ _ w.heap.size 43 #[.int .i64 4, .string tx, .int .i64 0, .int .i64 p] (0, 0) _ rfl hblk Tryd.underlying43 rfl rfl) rfl ?_
  exact hpost
theorem refnext_calls (s : ByteArray) (p : Nat) (w : World) (hp : p < s.size) (hs : s.size ≤ 281474976710656) :
    Calls Tryd.prog 22 #[.string s, .int .i64 p] w (NextPost (s.data.toList.drop p) p w) := by
  by_cases hk : 0 < ks (s.data.toList.drop p)
  · exact refnext_name s p w hp hs hk
  · cases hd : isD (s.data.toList.drop p) with
    | true => exact refnext_dig s p w hp hs (by omega) hd
    | false => exact refnext_sgn s p w hp hs (by omega) hd
end Go.Proofs.YtfammikhejjjcaaDoor.Lex
