/- slices.Clone of texts; a square of bools that is made row by row and written place by place. No condition. -/
import Derived.Test.YtokogcfcaehifaaDoorLatJoin
import Derived.Test.YtokogcfcaehifaaDoorMakeSpec
import Derived.Maps.AppendAt
import Derived.WalkSpells
import Derived.StillTailTactics
namespace Go.Proofs.YtokogcfcaehifaaDoor.Mat
set_option linter.unusedVariables false
open Go.RowKit Go.Proofs.YtokogcfcaehifaaDoorW.PrintWords Go.Proofs.YtokogcfcaehifaaDoor.Aux Go.Proofs.YtokogcfcaehifaaDoor.LatSpec Go.Proofs.YtokogcfcaehifaaDoor.LatWalk Go.Proofs.YtokogcfcaehifaaDoor.LatF Go.Proofs.YtokogcfcaehifaaDoor.LatLeq Go.Proofs.YtokogcfcaehifaaDoor.LatJoin Go.Proofs.YtokogcfcaehifaaDoor.MakeSpec
theorem infoStr : (Tryd.prog.info? 9).map (fun i => (i.zero, i.size, i.bytes)) = some (some (.string ByteArray.empty), 1, 16) := by kernel_rfl
set_option maxHeartbeats 400000 in
theorem clone_calls (xs : List ByteArray) (A : Option Addr) (c : Nat) (w : World) (h : Kd.string.C w A xs.length xs) (hn : xs.length ≤ 100000) :
    Calls Tryd.prog 42 #[.slice A xs.length c] w fun e w' => ∃ v, e = .returned v ∧ Kd.string.R 9 w' w.heap.size (fun _ => True) v xs ∧ Below w.heap.size w w' := by
  cases A with
  | none =>
    have h0 : xs.length = 0 := by
      rcases Nat.eq_zero_or_pos xs.length with h0 | h0
      · exact h0
      · obtain ⟨ad, e, _⟩ := h.2.2 h0; cases e
    obtain rfl : xs = [] := List.eq_nil_of_length_eq_zero h0
    clear h h0 hn
    have heq := Lib.run_eql_slice_nil (P := Tryd.prog) w 22 9 none 0 c 0 0 Tryd.underlying22
    simp only [Option.isNone] at heq
    go_enter Tryd.func42, Tryd.ntmps42
    go_wp2
    go_ret
    exact ⟨_, rfl, Kd.R_nil _ _ _ _ _, Below.refl _ _⟩
  | some ad =>
    have H : Hid ((Kd.scalar Value.string (fun _ => rfl)).C w (some ad) xs.length xs) := Lib.hid h
    have hb := below_alloc (Below.refl w.heap.size w) (.cells #[] 9)
    have H2 : Hid ((Kd.scalar Value.string (fun _ => rfl)).C (w.alloc (.cells #[] 9)) (some ad) xs.length xs) := Lib.hid (Kd.C_below h hb)
    have hR0 : (Kd.scalar Value.string (fun _ => rfl)).R 9 (w.alloc (.cells #[] 9)) w.heap.size (fun _ => True) (.slice (some ⟨w.heap.size, 0, none⟩) 0 0) ([] : List ByteArray) :=
      Kd.R_of_own ⟨rfl, .inr ⟨w.heap.size, 0, #[], rfl, Nat.le_refl _, heap_alloc_new w _, Nat.le_refl _, Nat.zero_le _, rfl, rfl⟩⟩ (fun _ _ => trivial)
    have HR0 := Lib.hid hR0
    have HB := Lib.hid hb
    clear h hb hR0
    have heq := Lib.run_eql_slice_nil (P := Tryd.prog) w 22 9 (some ad) xs.length c 0 0 Tryd.underlying22
    simp only [Option.isNone] at heq
    go_enter Tryd.func42, Tryd.ntmps42
    go_wp2_with ((with_reducible refine Kd.R_append_row Value.string ByteArray.empty (h1 := fun _ => rfl) (w0 := w) w.heap.size rfl (.tmp 5) (.tmp 6) 22 9 (.string ByteArray.empty) 16 rfl Tryd.underlying22 infoStr rfl (by omega) (.slice (some ⟨w.heap.size, 0, none⟩) 0 0) [] xs (some ad) xs.length c (fun _ => True) rfl rfl (fun _ _ => trivial) HR0.out H2.out HB.out (by simp) (by simp; omega) ?_); intro v1 w1 hR hb1 hg hat; rw [List.nil_append] at hR; have HR := Lib.hid hR; have HB1 := Lib.hid hb1; clear hR hb1 hg hat)
    go_ret
    exact ⟨_, rfl, HR.out, HB1.out⟩
theorem add_one_more (ad : Addr) (n : Nat) : ad.add (n + 1) = ⟨(ad.add n).block, (ad.add n).off + 1, none⟩ := by
  unfold Addr.add
  rw [if_neg (by omega)]
  split
  · subst_vars; rfl
  · rfl
/-- The two numbers of pair i. -/
theorem C_pair_get {w : World} {A : Option Addr} {n : Nat} {xs : List (Int × Int)} (h : (Kd.pair (Kd.int .i64) (Kd.int .i64)).C w A n xs) {i : Nat} (hi : i < n) :
    ∃ ad, A = some ad ∧ w.cell? (ad.add (i * 2)) = some (.int .i64 (xs.getD i (0, 0)).1) ∧ w.cell? ⟨(ad.add (i * 2)).block, (ad.add (i * 2)).off + 1, none⟩ = some (.int .i64 (xs.getD i (0, 0)).2) := by
  obtain ⟨ad, c, e1, hl, hc, hcell⟩ := Kd.C_get h (0, 0) (i : Int) (by omega) (by omega)
  rw [Int.toNat_natCast] at hc hcell
  obtain ⟨ca, cb, rfl, h1, h2⟩ := hc
  obtain rfl : ca = [.int .i64 (xs.getD i (0, 0)).1] := h1
  obtain rfl : cb = [.int .i64 (xs.getD i (0, 0)).2] := h2
  refine ⟨ad, e1, hcell 0 _ rfl, ?_⟩
  have h1 := hcell 1 _ rfl
  rw [show ad.add (i * (Kd.pair (Kd.int .i64) (Kd.int .i64)).sz + 1) = ⟨(ad.add (i * 2)).block, (ad.add (i * 2)).off + 1, none⟩ from add_one_more ad (i * 2)] at h1
  exact h1
/-! ### a square that is made -/
theorem two_blocks (w : World) (o1 o2 : Obj) : ((w.alloc o1).alloc o2).drew.heap[w.heap.size + 1]? = some o2 := by
  have := heap_alloc_new (w.alloc o1) o2
  rw [alloc_size] at this
  exact this
def rowV (R : Nat → Nat) (n k : Nat) : List Value := (List.range k).map fun i => .slice (some ⟨R i, 0, none⟩) n n
def rowB (M : Nat → Nat → Bool) (n i : Nat) : List Value := (List.range n).map fun j => .bool (M i j)
theorem rowV_length (R : Nat → Nat) (n k : Nat) : (rowV R n k).length = k := by simp [rowV]
theorem rowB_length (M : Nat → Nat → Bool) (n i : Nat) : (rowB M n i).length = n := by simp [rowB]
theorem rowV_get {R : Nat → Nat} {n k i : Nat} (h : i < k) : (rowV R n k)[i]? = some (.slice (some ⟨R i, 0, none⟩) n n) := by simp [rowV, h]
theorem rowB_get {M : Nat → Nat → Bool} {n i j : Nat} (h : j < n) : (rowB M n i)[j]? = some (.bool (M i j)) := by simp [rowB, h]
theorem rowB_upd_same (M : Nat → Nat → Bool) (n a b : Nat) (t : Bool) (hb : b < n) : (rowB M n a).toArray.setIfInBounds b (.bool t) = (rowB (upd M a b t) n a).toArray := by
  rw [← Array.toList_inj, Array.toList_setIfInBounds]
  refine List.ext_getElem? fun j => ?_
  rw [List.getElem?_set]
  rcases Nat.lt_or_ge j n with hj | hj
  · simp only [rowB_length, rowB_get hj, upd, true_and]
    by_cases he : b = j
    · subst he; simp [hb]
    · rw [if_neg he, if_neg (fun h => he h.symm)]
  · rw [if_neg (by omega), List.getElem?_eq_none (by simp [rowB_length]; omega), List.getElem?_eq_none (by simp [rowB_length]; omega)]
theorem rowB_upd_ne (M : Nat → Nat → Bool) (n a b i : Nat) (t : Bool) (h : i ≠ a) : rowB (upd M a b t) n i = rowB M n i := by
  simp [rowB, upd, h]
structure Mat (wb W : World) (g : Nat) (A : Option Addr) (n c : Nat) (v : Value) (k : Nat) (R : Nat → Nat) (M : Nat → Nat → Bool) : Prop where
  bel : Below wb.heap.size wb W
  gb : wb.heap.size ≤ g
  box : W.heap[g]? = some (.cells #[.slice A n c, v] 25 (0, 0))
  own : W.ownsRow wb.heap.size 46 1 v k (rowV R n k)
  rows : ∀ i, i < k → W.heap[R i]? = some (.cells (rowB M n i).toArray 4 (0, 0))
  low : ∀ i, i < k → wb.heap.size ≤ R i
  inj : ∀ i j, i < k → j < k → R i = R j → i = j
section
variable {wb W : World} {g : Nat} {A : Option Addr} {n c : Nat} {v : Value} {k : Nat} {R : Nat → Nat} {M : Nat → Nat → Bool}
theorem Mat.drewN (h : Mat wb W g A n c v k R M) (m : Nat) : Mat wb (W.drewN m) g A n c v k R M := ⟨pw_below_drewN h.bel m, h.gb, h.box, h.own, h.rows, h.low, h.inj⟩
theorem Mat.drew (h : Mat wb W g A n c v k R M) : Mat wb W.drew g A n c v k R M := ⟨h.bel.drew, h.gb, h.box, h.own, h.rows, h.low, h.inj⟩
theorem Mat.after (h : Mat wb W g A n c v k R M) {w1 : World} (hb : Below W.heap.size W w1) : Mat wb w1 g A n c v k R M :=
  ⟨below_step h.bel hb, h.gb, blk_below h.box hb, own_move h.own (fun q hq => by obtain ⟨cs, hc⟩ := own_typed h.own q hq; exact hb.block q (blk_lt hc)), fun i hi => blk_below (h.rows i hi) hb, h.low, h.inj⟩
theorem Mat.box1 (h : Mat wb W g A n c v k R M) : W.cell? ⟨g, 1, none⟩ = some v := (blk_cell h.box 1).trans rfl
theorem Mat.box0 (h : Mat wb W g A n c v k R M) : W.cell? ⟨g, 0, none⟩ = some (.slice A n c) := (blk_cell h.box 0).trans rfl
theorem Mat.boxf (h : Mat wb W g A n c v k R M) (i : Nat) : W.frozen? ⟨g, i, none⟩ = false := blk_frozen h.box i
theorem Mat.apart (h : Mat wb W g A n c v k R M) : v.ownBlock ≠ some g := fun e => by
  obtain ⟨cs, hc⟩ := own_typed h.own g e
  have hx := h.box
  rw [hc] at hx
  simp at hx
theorem Mat.congr (h : Mat wb W g A n c v k R M) {M' : Nat → Nat → Bool} (he : ∀ x y, x < k → y < n → M x y = M' x y) : Mat wb W g A n c v k R M' :=
  ⟨h.bel, h.gb, h.box, h.own, fun i hi => by
    have : rowB M' n i = rowB M n i := List.map_congr_left fun j hj => by rw [he i j hi (by simpa using hj)]
    rw [this]
    exact h.rows i hi, h.low, h.inj⟩
theorem Mat.box_after (h : Mat wb W g A n c v k R M) {o1 o2 : Obj} {w3 : World} (hg : ((W.alloc o1).alloc o2).drew.grownBy w3 v.ownBlock) : w3.cell? ⟨g, 1, none⟩ = some v ∧ w3.frozen? ⟨g, 1, none⟩ = false := by
  have hB : Below W.heap.size W ((W.alloc o1).alloc o2) := below_alloc (below_alloc (Below.refl _ _) _) _
  have hx : ((W.alloc o1).alloc o2).drew.heap[g]? = some (.cells #[.slice A n c, v] 25 (0, 0)) := blk_below h.box hB.drew
  have hx2 := blk_grown hx hg (Ne.symm h.apart)
  exact ⟨(blk_cell hx2 1).trans rfl, blk_frozen hx2 1⟩
/-- The row of rows, where there is one. -/
theorem Mat.order (h : Mat wb W g A n c v k R M) (hk : 0 < k) : ∃ ob cap, v = .slice (some ⟨ob, 0, none⟩) k cap ∧ k ≤ cap ∧ ∀ i, i < k → W.cell? ⟨ob, i, none⟩ = some (.slice (some ⟨R i, 0, none⟩) n n) := by
  obtain ⟨h1, h2⟩ := h.own
  rcases h2 with ⟨_, h0⟩ | ⟨q, cap, cur, rfl, hq, hh, hn, hm, hs, ht⟩
  · omega
  · refine ⟨q, cap, rfl, hn, fun i hi => ?_⟩
    rw [blk_cell hh i]
    have : cur.toList[i]? = some (.slice (some ⟨R i, 0, none⟩) n n) := by
      rw [← rowV_get (R := R) (n := n) hi, ← ht, List.getElem?_take_of_lt (by omega)]
    simpa using this
theorem Mat.cell (h : Mat wb W g A n c v k R M) {i j : Nat} (hi : i < k) (hj : j < n) : W.cell? ⟨R i, j, none⟩ = some (.bool (M i j)) := by
  rw [blk_cell (h.rows i hi) j]
  simpa using rowB_get hj
theorem Mat.free (h : Mat wb W g A n c v k R M) {i : Nat} (hi : i < k) (j : Nat) : W.frozen? ⟨R i, j, none⟩ = false := blk_frozen (h.rows i hi) j
theorem Mat.set (h : Mat wb W g A n c v k R M) {a b : Nat} (ha : a < k) (hb : b < n) (t : Bool) : Mat wb (W.setCell ⟨R a, b, none⟩ (.bool t)) g A n c v k R (upd M a b t) := by
  refine ⟨below_set h.bel (h.low a ha), h.gb, blk_far h.box (blk_ne h.box (h.rows a ha) (by decide)) _, own_move h.own (fun q hq => ?_), fun i hi => ?_, h.low, h.inj⟩
  · obtain ⟨cs, hc⟩ := own_typed h.own q hq
    exact Below.heap_setCell W _ _ q (blk_ne (cs := cs) (t := 46) hc (h.rows a ha) (by decide))
  · by_cases he : i = a
    · subst he
      exact blk_put (h.rows i hi) b _ (rowB_upd_same M n i b t hb)
    · rw [rowB_upd_ne M n a b i t he]
      exact blk_far (h.rows i hi) (fun e => he (h.inj i a hi ha e)) _
/-- A row more. -/
theorem Mat.push (h : Mat wb W g A n c v k R M) {Wa Wb Wc : World} {v' : Value} {fz : Value}
    (ha : Wa = W.alloc (.cells (rowB (fun _ _ => false) n 0).toArray 4)) (hb : Wb = Wa.alloc (.cells #[fz] 46))
    (ho : Wc.ownsRow wb.heap.size 46 1 v' (k + 1) (rowV R n k ++ [.slice (some ⟨W.heap.size, 0, none⟩) n n])) (hg' : Wb.drew.grownBy Wc v.ownBlock) :
    Mat wb (Wc.setCell ⟨g, 1, none⟩ v') g A n c v' (k + 1) (fun i => if i = k then W.heap.size else R i) (fun x y => if x = k then false else M x y) := by
  have hg : Wb.grownBy Wc v.ownBlock := ⟨hg'.os, hg'.tape, hg'.output, hg'.size, hg'.block⟩
  have hsz : Wb.heap.size = W.heap.size + 2 := by rw [hb, alloc_size, ha, alloc_size]
  have hBb : Below W.heap.size W Wb := by rw [hb, ha]; exact below_alloc (below_alloc (Below.refl _ _) _) _
  have hlow : ∀ q, v.ownBlock = some q → wb.heap.size ≤ q := fun q hq => own_base h.own q hq
  have hbc : Below wb.heap.size wb Wc := (below_step h.bel hBb).grown hg (below_step h.bel hBb).size hlow
  have hgv : some g ≠ v.ownBlock := fun e => by
    obtain ⟨cs, hc⟩ := own_typed h.own g e.symm
    have hx := h.box
    rw [hc] at hx
    simp at hx
  have hgs := blk_lt h.box
  have hboxc : Wc.heap[g]? = some (.cells #[.slice A n c, v] 25 (0, 0)) := blk_grown (blk_below h.box hBb) hg hgv
  have hrow : ∀ i, i < k → Wc.heap[R i]? = some (.cells (rowB M n i).toArray 4 (0, 0)) := fun i hi => by
    refine blk_grown (blk_below (h.rows i hi) hBb) hg (fun e => ?_)
    obtain ⟨cs, hc⟩ := own_typed h.own (R i) e.symm
    have := (h.rows i hi).symm.trans hc
    simp at this
  have hnew : Wc.heap[W.heap.size]? = some (.cells (rowB (fun _ _ => false) n 0).toArray 4 (0, 0)) := by
    refine blk_grown ?_ hg (fun e => ?_)
    · rw [hb]
      exact (Below.heap_alloc Wa _ _ (by rw [ha, alloc_size]; omega)).trans (by rw [ha]; exact heap_alloc_new W _)
    · obtain ⟨cs, hc⟩ := own_typed h.own _ e.symm
      have := blk_lt hc
      omega
  have hRlt : ∀ i, i < k → R i < W.heap.size := fun i hi => blk_lt (h.rows i hi)
  refine ⟨below_set hbc h.gb, h.gb, blk_put hboxc 1 _ rfl, ?_, fun i hi => ?_, fun i hi => ?_, fun i j hi hj e => ?_⟩
  · have he : rowV (fun i => if i = k then W.heap.size else R i) n (k + 1) = rowV R n k ++ [.slice (some ⟨W.heap.size, 0, none⟩) n n] := by
      simp only [rowV, List.range_succ, List.map_append, List.map_cons, List.map_nil, if_true]
      congr 1
      refine List.map_congr_left fun i hi => ?_
      have : i < k := by simpa using hi
      rw [if_neg (by omega)]
    rw [he]
    refine own_move ho (fun q hq => ?_)
    obtain ⟨cs, hc⟩ := own_typed ho q hq
    exact Below.heap_setCell Wc _ _ q (blk_ne (cs := cs) (t := 46) hc hboxc (by decide))
  · by_cases he : i = k
    · subst he
      simp only [if_true]
      refine blk_far (t := 4) ?_ (by show W.heap.size ≠ g; omega) _
      rw [hnew]
      simp [rowB]
    · have hik : i < k := by omega
      simp only [if_neg he]
      have e2 : rowB (fun x y => if x = k then false else M x y) n i = rowB M n i := by simp [rowB, he]
      rw [e2]
      exact blk_far (hrow i hik) (blk_ne (hrow i hik) hboxc (by decide)) _
  · by_cases he : i = k
    · rw [if_pos he]; exact h.bel.size
    · rw [if_neg he]; exact h.low i (by omega)
  · by_cases hik : i = k
    · by_cases hjk : j = k
      · omega
      · have := hRlt j (by omega)
        rw [if_pos hik, if_neg hjk] at e
        omega
    · by_cases hjk : j = k
      · have := hRlt i (by omega)
        rw [if_neg hik, if_pos hjk] at e
        omega
      · rw [if_neg hik, if_neg hjk] at e
        exact h.inj i j (by omega) (by omega) e
/-- The square is read as a lattice's order. -/
theorem reads_of {names : List ByteArray} {base : Nat} (hown : W.ownsRow base 46 1 v names.length (rowV R names.length names.length)) (hrows : ∀ i, i < names.length → W.heap[R i]? = some (.cells (rowB M names.length i).toArray 4 (0, 0))) (hc : names.length ≤ c) (hAW : Kd.string.C W A names.length names) : ∃ B d, v = .slice B (latOf names M).order.length d ∧ LR W (latOf names M) A c B d := by
  have hl : (latOf names M).order.length = names.length := by simp [latOf]
  have hbig := (C_len hAW).2
  have hrow : ∀ i, i < names.length → (latOf names M).order[i]? = some ((List.range names.length).map (M i)) := fun i hi => by simp [latOf, hi]
  have hcl : ∀ i j, i < names.length → j < names.length → W.cell? ⟨R i, j, none⟩ = some (.bool (M i j)) := fun i j hi hj => by
    rw [blk_cell (hrows i hi) j]
    simpa using rowB_get hj
  obtain ⟨h1, h2⟩ := hown
  have hB : ∃ B d, v = .slice B names.length d ∧ names.length ≤ d ∧ (0 < names.length → ∃ ob, B = some ⟨ob, 0, none⟩ ∧ ∀ i, i < names.length → W.cell? ⟨ob, i, none⟩ = some (.slice (some ⟨R i, 0, none⟩) names.length names.length)) := by
    rcases h2 with ⟨rfl, h0⟩ | ⟨q, cap, cur, rfl, hq, hh, hn, hm, hs, ht⟩
    · exact ⟨none, 0, by rw [h0], by omega, fun h => by omega⟩
    · refine ⟨_, cap, rfl, hn, fun h => ⟨q, rfl, fun i hi => ?_⟩⟩
      rw [blk_cell hh i]
      have : cur.toList[i]? = some (.slice (some ⟨R i, 0, none⟩) names.length names.length) := by
        rw [← rowV_get (R := R) (n := names.length) hi, ← ht, List.getElem?_take_of_lt (by omega)]
      simpa using this
  obtain ⟨B, d, rfl, hd, hr⟩ := hB
  refine ⟨B, d, by rw [hl], hc, by rw [hl]; exact hd, hAW, ?_⟩
  rw [hl]
  refine ⟨hl, hbig, fun hn => ?_⟩
  obtain ⟨ob, rfl, hro⟩ := hr hn
  refine ⟨_, rfl, fun j p hj => ?_⟩
  have hjn : j < names.length := by
    rcases Nat.lt_or_ge j names.length with h | h
    · exact h
    · rw [List.getElem?_eq_none (by rw [hl]; exact h)] at hj; cases hj
  rw [hrow j hjn] at hj
  injection hj with hj
  subst hj
  refine ⟨[.slice (some ⟨R j, 0, none⟩) names.length names.length], rfl, ⟨some ⟨R j, 0, none⟩, names.length, by simp, by simp, ?_⟩, fun i u hu => ?_⟩
  · rw [show ((List.range names.length).map (M j)).length = names.length by simp]
    refine ⟨by simp, hbig, fun _ => ⟨_, rfl, fun q b hb => ?_⟩⟩
    have hqn : q < names.length := by
      rcases Nat.lt_or_ge q names.length with h | h
      · exact h
      · rw [List.getElem?_eq_none (by simp; exact h)] at hb; cases hb
    have hbv : b = M j q := by simpa [hqn] using hb.symm
    subst hbv
    refine ⟨_, rfl, rfl, fun i u hu => ?_⟩
    match i, hu with
    | 0, hu =>
      obtain rfl : Value.bool (M j q) = u := by simpa using hu
      rw [add_plain]
      have := hcl j q hjn hqn
      simpa [Kd.bool, Kd.scalar] using this
  · match i, hu with
    | 0, hu =>
      obtain rfl : Value.slice (some ⟨R j, 0, none⟩) names.length names.length = u := by simpa using hu
      rw [add_plain]
      simpa [Kd.slice] using hro j hjn
theorem Mat.reads {names : List ByteArray} (h : Mat wb W g A names.length c v names.length R M) (hc : names.length ≤ c) (hA : Kd.string.C wb A names.length names) : ∃ B d, v = .slice B (latOf names M).order.length d ∧ LR W (latOf names M) A c B d :=
  reads_of h.own h.rows hc (Kd.C_below hA h.bel)
/-- The same, behind two stores into a block that was there before. -/
theorem Mat.reads_put {names : List ByteArray} (h : Mat wb W g A names.length c v names.length R M) (hc : names.length ≤ c) (hA : Kd.string.C wb A names.length names) {q : Nat} (hq : q < wb.heap.size) (hne : ∀ ad, A = some ad → 0 < names.length → ad.block ≠ q) (x y : Value) :
    ∃ B d, v = .slice B (latOf names M).order.length d ∧ LR ((W.setCell ⟨q, 0, none⟩ x).setCell ⟨q, 1, none⟩ y) (latOf names M) A c B d := by
  have hfar : ∀ k, k ≠ q → ((W.setCell ⟨q, 0, none⟩ x).setCell ⟨q, 1, none⟩ y).heap[k]? = W.heap[k]? := fun k hk => (Below.heap_setCell _ _ _ k hk).trans (Below.heap_setCell _ _ _ k hk)
  refine reads_of (base := wb.heap.size) (R := R) (own_move h.own fun k hk => hfar k ?_) (fun i hi => (hfar (R i) ?_).trans (h.rows i hi)) hc ?_
  · have := own_base h.own k hk
    omega
  · have := h.low i hi
    omega
  · exact C_grown (Kd.C_below hA h.bel) (grown_set (grown_set (grown_refl _ _))) (fun _ _ hk => hk) hne (by decide)
end
theorem LR_no (w : World) : LR w noLat none 0 none 0 := ⟨Nat.le_refl _, Nat.le_refl _, ⟨rfl, by simp [noLat], fun h => absurd h (by simp [noLat])⟩, ⟨rfl, by simp [noLat], fun h => absurd h (by simp [noLat])⟩⟩
/-- What Make hands back. -/
def MakePost (w : World) (names : List ByteArray) (pairs : List (Int × Int)) (e : Ending) (w' : World) : Prop :=
  ∃ l' err A c B d, e = .returned (.tuple #[.agg #[.slice A l'.names.length c, .slice B l'.order.length d], .int .i64 err]) ∧ LR w' l' A c B d ∧ MakeSaid names pairs l' err ∧ Below w.heap.size w w'
end Go.Proofs.YtokogcfcaehifaaDoor.Mat
