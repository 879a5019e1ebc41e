/- palisaderef01.Make at every list of names and pairs. No condition. -/
import Derived.Test.YtokogcfcaehifaaDoorMake
import Derived.Test.YtokogcfcaehifaaDoorMakeSpec2
import Derived.Test.YtokogcfcaehifaaDoorRefFormed
namespace Go.Proofs.YtokogcfcaehifaaDoor.RefMake
set_option linter.unusedVariables false
open Go.RowKit Go.Proofs.YtokogcfcaehifaaDoorW.PrintWords Go.Proofs.YtokogcfcaehifaaDoor.Aux Go.Proofs.YtokogcfcaehifaaDoor.LatSpec Go.Proofs.YtokogcfcaehifaaDoor.LatWalk Go.Proofs.YtokogcfcaehifaaDoor.LatF Go.Proofs.YtokogcfcaehifaaDoor.LatLeq Go.Proofs.YtokogcfcaehifaaDoor.LatJoin Go.Proofs.YtokogcfcaehifaaDoor.MakeSpec Go.Proofs.YtokogcfcaehifaaDoor.Mat Go.Proofs.YtokogcfcaehifaaDoor.MakeW
/-! ### rounds, in plain words -/
section
variable {n : Nat} {M0 M : Nat → Nat → Bool} {more : Bool} {a b c : Nat}
theorem round_start : Round n M0 M0 false 0 0 0 := .inl ⟨rfl, rfl, Seen.zero⟩
theorem round_skip (h : Round n M0 M more a b c) (h1 : M a b = true → M b c = true → M a c = true) : Round n M0 M more a b (c + 1) := by
  rcases h with ⟨h2, rfl, h3⟩ | h2
  · exact .inl ⟨h2, rfl, h3.next h1⟩
  · exact .inr h2
theorem round_set (h : Round n M0 M more a b c) (ha : a < n) (hc : c < n) (h1 : M a c = false) : Round n M0 (upd M a c true) true a b (c + 1) := by
  have hlt := cnt_upd ha hc h1
  rcases h with ⟨_, rfl, _⟩ | ⟨_, h2⟩
  · exact .inr ⟨rfl, hlt⟩
  · exact .inr ⟨rfl, by omega⟩
theorem round_row (h : Round n M0 M more a b n) : Round n M0 M more a (b + 1) 0 := by
  rcases h with ⟨h2, rfl, h3⟩ | h2
  · exact .inl ⟨h2, rfl, h3.row⟩
  · exact .inr h2
theorem round_col (h : Round n M0 M more a n 0) : Round n M0 M more (a + 1) 0 0 := by
  rcases h with ⟨h2, rfl, h3⟩ | h2
  · exact .inl ⟨h2, rfl, h3.col⟩
  · exact .inr h2
theorem round_end (h : Round n M0 M more n 0 0) : (more = false → TransM n M) ∧ (if more = true then cnt n M + 1 else 0) < cnt n M0 + 1 := by
  rcases h with ⟨rfl, rfl, h3⟩ | ⟨rfl, h2⟩
  · exact ⟨fun _ => h3.all, by simp⟩
  · exact ⟨fun h => by simp at h, by simp; omega⟩
end
/-! ### a square that is made, beside names that are made -/
theorem below_set' {B : Nat} {w W : World} {g j : Nat} {v : Value} (h : Below B w W) (hg : B ≤ g) : Below B w (W.setCell ⟨g, j, none⟩ v) := h.setCell hg _
structure MatN (wb W : World) (g : Nat) (A : Option Addr) (names : List ByteArray) (c : Nat) (v : Value) (k : Nat) (R : Nat → Nat) (M : Nat → Nat → Bool) : Prop where
  mat : Mat wb W g A names.length c v k R M
  nown : W.ownsRow wb.heap.size 9 1 (.slice A names.length c) names.length (encs Value.string names)
section
variable {wb W : World} {g : Nat} {A : Option Addr} {names : List ByteArray} {c : Nat} {v : Value} {k : Nat} {R : Nat → Nat} {M : Nat → Nat → Bool}
theorem MatN.drew (h : MatN wb W g A names c v k R M) : MatN wb W.drew g A names c v k R M := ⟨h.mat.drew, h.nown⟩
theorem MatN.after (h : MatN wb W g A names c v k R M) {w1 : World} (hb : Below W.heap.size W w1) : MatN wb w1 g A names c v k R M :=
  ⟨h.mat.after hb, own_move h.nown (fun q hq => by obtain ⟨cs, hc⟩ := own_typed h.nown q hq; exact hb.block q (blk_lt hc))⟩
theorem MatN.congr (h : MatN wb W g A names c v k R M) {M' : Nat → Nat → Bool} (he : ∀ x y, x < k → y < names.length → M x y = M' x y) : MatN wb W g A names c v k R M' := ⟨h.mat.congr he, h.nown⟩
theorem MatN.set (h : MatN wb W g A names c v k R M) {a b : Nat} (ha : a < k) (hb : b < names.length) (t : Bool) : MatN wb (W.setCell ⟨R a, b, none⟩ (.bool t)) g A names c v k R (upd M a b t) :=
  ⟨h.mat.set ha hb t, own_move h.nown (fun q hq => by
    obtain ⟨cs, hc⟩ := own_typed h.nown q hq
    exact Below.heap_setCell W _ _ q (blk_ne (cs := cs) (t := 9) hc (h.mat.rows a ha) (by decide)))⟩
theorem MatN.push (h : MatN wb W g A names c v k R M) {Wa Wb Wc : World} {v' : Value} {fz : Value}
    (ha : Wa = W.alloc (.cells (rowB (fun _ _ => false) names.length 0).toArray 4)) (hb : Wb = Wa.alloc (.cells #[fz] 46))
    (ho : Wc.ownsRow wb.heap.size 46 1 v' (k + 1) (rowV R names.length k ++ [.slice (some ⟨W.heap.size, 0, none⟩) names.length names.length])) (hg' : Wb.drew.grownBy Wc v.ownBlock) :
    MatN wb (Wc.setCell ⟨g, 1, none⟩ v') g A names c v' (k + 1) (fun i => if i = k then W.heap.size else R i) (fun x y => if x = k then false else M x y) := by
  refine ⟨h.mat.push ha hb ho hg', own_move h.nown (fun q hq => ?_)⟩
  obtain ⟨cs, hc⟩ := own_typed h.nown q hq
  have hg : Wb.grownBy Wc v.ownBlock := ⟨hg'.os, hg'.tape, hg'.output, hg'.size, hg'.block⟩
  have hBb : Below W.heap.size W Wb := by rw [hb, ha]; exact below_alloc (below_alloc (Below.refl _ _) _) _
  have h1 := blk_below hc hBb
  have hne : some q ≠ v.ownBlock := fun e => by
    obtain ⟨cs2, hc2⟩ := own_typed h.mat.own q e.symm
    rw [hc] at hc2
    simp at hc2
  have h2 := blk_grown h1 hg hne
  have hgq : q ≠ g := blk_ne (cs := cs) (t := 9) hc h.mat.box (by decide)
  rw [Below.heap_setCell Wc ⟨g, 1, none⟩ v' q hgq, h2, hc]
theorem MatN.names_C (h : MatN wb W g A names c v k R M) : names.length ≤ c ∧ Kd.string.C W A names.length names := by
  have hR : Kd.string.R 9 W wb.heap.size (fun _ => True) (.slice A names.length c) names := Kd.R_of_own h.nown (fun _ _ => trivial)
  exact (Kd.R_reads' hR).2
theorem MatN.reads (h : MatN wb W g A names c v names.length R M) : ∃ B d, v = .slice B (latOf names M).order.length d ∧ LR W (latOf names M) A c B d :=
  reads_of h.mat.own h.mat.rows h.names_C.1 h.names_C.2
theorem MatN.reads_put (h : MatN wb W g A names c v names.length R M) {q : Nat} (hq : q < wb.heap.size) (x y : Value) :
    ∃ B d, v = .slice B (latOf names M).order.length d ∧ LR ((W.setCell ⟨q, 0, none⟩ x).setCell ⟨q, 1, none⟩ y) (latOf names M) A c B d := by
  have hfar : ∀ k, k ≠ q → ((W.setCell ⟨q, 0, none⟩ x).setCell ⟨q, 1, none⟩ y).heap[k]? = W.heap[k]? := fun k hk => (Below.heap_setCell _ _ _ k hk).trans (Below.heap_setCell _ _ _ k hk)
  have hn2 : ((W.setCell ⟨q, 0, none⟩ x).setCell ⟨q, 1, none⟩ y).ownsRow wb.heap.size 9 1 (.slice A names.length c) names.length (encs Value.string names) := own_move h.nown fun k hk => hfar k (by
    have := own_base h.nown k hk
    omega)
  have hR : Kd.string.R 9 ((W.setCell ⟨q, 0, none⟩ x).setCell ⟨q, 1, none⟩ y) wb.heap.size (fun _ => True) (.slice A names.length c) names := Kd.R_of_own hn2 (fun _ _ => trivial)
  refine reads_of (base := wb.heap.size) (R := R) (own_move h.mat.own fun k hk => hfar k ?_) (fun i hi => (hfar (R i) ?_).trans (h.mat.rows i hi)) h.names_C.1 (Kd.R_reads' hR).2.2
  · have := own_base h.mat.own k hk
    omega
  · have := h.mat.low i hi
    omega
end
set_option maxRecDepth 100000 in
set_option maxHeartbeats 3200000 in
theorem make_few (names : List ByteArray) (pairs : List (Int × Int)) (A Q : Option Addr) (c cq : Nat) (w : World) (hA : Kd.string.C w A names.length names) (hQ : (Kd.pair (Kd.int .i64) (Kd.int .i64)).C w Q pairs.length pairs) (hs : ∀ s ∈ names, s.size ≤ 9223372036854775807) (hn : names.length ≤ 8) (hm : pairs.length ≤ 64) :
    Calls Tryd.prog 16 #[.slice A names.length c, .slice Q pairs.length cq] w fun e w' => MakePost w names pairs e w' := by
  obtain ⟨wa, hwa⟩ : ∃ wa, wa = w.alloc (.cells #[.slice none 0 0, .slice none 0 0] 25) := ⟨_, rfl⟩
  have hsz : wa.heap.size = w.heap.size + 1 := by rw [hwa, alloc_size]
  have hb0 : Below w.heap.size w wa := by rw [hwa]; exact below_alloc (Below.refl _ _) _
  have hba : Below (w.heap.size + 1) wa ((w.alloc (.cells #[.slice none 0 0, .slice none 0 0] 25)).alloc (.cells #[.slice none 0 0, .slice none 0 0] 25)) := by
    rw [← hsz, ← hwa]; exact below_alloc (Below.refl _ _) _
  have hrb : wa.heap[w.heap.size]? = some (.cells #[.slice none 0 0, .slice none 0 0] 25 (0, 0)) := by rw [hwa]; exact blk_new w _
  have hgb : ((w.alloc (.cells #[.slice none 0 0, .slice none 0 0] 25)).alloc (.cells #[.slice none 0 0, .slice none 0 0] 25)).heap[w.heap.size + 1]? = some (.cells #[.slice none 0 0, .slice none 0 0] 25 (0, 0)) := by
    have := blk_new wa (.cells #[.slice none 0 0, .slice none 0 0] 25)
    rw [hsz, hwa] at this
    exact this
  have hb2 : Below w.heap.size w ((w.alloc (.cells #[.slice none 0 0, .slice none 0 0] 25)).alloc (.cells #[.slice none 0 0, .slice none 0 0] 25)) := below_alloc (below_alloc (Below.refl _ _) _) _
  have HA : Hid ((Kd.scalar Value.string (fun _ => rfl)).C ((w.alloc (.cells #[.slice none 0 0, .slice none 0 0] 25)).alloc (.cells #[.slice none 0 0, .slice none 0 0] 25)) A names.length names) := Lib.hid (Kd.C_below hA hb2)
  have HR0 : Hid ((Kd.scalar Value.string (fun _ => rfl)).R 9 ((w.alloc (.cells #[.slice none 0 0, .slice none 0 0] 25)).alloc (.cells #[.slice none 0 0, .slice none 0 0] 25)) (w.heap.size + 1) (fun _ => True) (.slice none 0 0) ([] : List ByteArray)) := Lib.hid (Kd.R_nil _ _ _ _ _)
  have HSZ := Lib.hid hsz
  have HB0 := Lib.hid hb0
  have HBA := Lib.hid hba
  have HRB := Lib.hid hrb
  have HGB := Lib.hid hgb
  have HQ := Lib.hid hQ
  have HNS := Lib.hid hs
  clear hwa hsz hb0 hba hrb hgb hb2 hA hQ hs
  go_enter Tryd.func16, Tryd.ntmps16
  go_wp2_with ((with_reducible refine Kd.R_append_row Value.string ByteArray.empty (h1 := fun _ => rfl) (w0 := wa) (w.heap.size + 1) rfl (.tmp 27) (.tmp 28) 22 9 (.string ByteArray.empty) 16 rfl Tryd.underlying22 infoStr rfl (by omega) (.slice none 0 0) [] names A names.length c (fun _ => True) rfl rfl (fun _ _ => trivial) HR0.out HA.out HBA.out (by simp) (by simp; omega) ?_); intro v1 w1 hR hb1 hg hat; rw [List.nil_append] at hR; obtain ⟨A1, c1, rfl, hl1, hC1⟩ := Kd.R_reads hR; have HR := Lib.hid hR; have HB1 := Lib.hid hb1; have HG := Lib.hid (blk_grown HGB.out hg (by simp [Value.ownBlock])); have cB : w1.cell? ⟨w.heap.size + 1, 0, none⟩ = some (.slice none 0 0) := (blk_cell HG.out 0).trans rfl; have fB := blk_frozen HG.out 0; clear hR hb1 hg hat hC1)
  have hmat0 : MatN wa (w1.setCell ⟨w.heap.size + 1, 0, none⟩ (.slice A1 names.length c1)) (w.heap.size + 1) A1 names c1 (.slice none 0 0) 0 (fun _ => 0) (fun x y => decide (x = y)) := by
    have hb1 := HB1.out
    rw [← HSZ.out] at hb1
    refine ⟨⟨below_set' hb1 (by have := HSZ.out; omega), by have := HSZ.out; omega, blk_put HG.out 0 _ rfl, ⟨rfl, .inl ⟨rfl, rfl⟩⟩, fun i hi => absurd hi (by omega), fun i hi => absurd hi (by omega), fun i j hi => absurd hi (by omega)⟩, ?_⟩
    have ho := Kd.own_of_R HR.out
    rw [← HSZ.out] at ho
    exact own_setCell ho (Kd.R_ne HR.out HG.out (by decide)) _
  have HM0 := Lib.hid hmat0
  clear cB fB hmat0
  have hmk : ∀ W : World, (Instr.makeSlice 46 (.int .i64 names.length) (.int .i64 names.length)).run Tryd.prog W = .ok (.slice (some ⟨W.heap.size, 0, none⟩) names.length names.length) (W.alloc (.cells (rowB (fun _ _ => false) names.length 0).toArray 4)) := by
    intro W
    obtain ⟨i0, hi, hz0, hz1, hz2⟩ := info_parts (show (Tryd.prog.info? 4).map (fun i => (i.zero, i.size, i.bytes)) = some (some (.bool false), 1, 1) by kernel_rfl)
    have h := run_make (P := Tryd.prog) W 46 4 i0 (.bool false) Tryd.underlying46 hi hz0 .i64 .i64 (names.length : Int) (names.length : Int) (by omega) (by omega) (by rw [hz2]; omega) (by omega)
    rw [h]
    have hc : madeCells (Value.bool false).cells (((names.length : Int)).toNat * i0.size) = (rowB (fun _ _ => false) names.length 0).toArray := by
      rw [hz1]
      rw [show (Value.bool false).cells = #[.bool false] from rfl]
      apply Array.toList_inj.1
      simp [madeCells, rowB, Nat.mod_one]
    rw [hc]
    simp
  have HMK := Lib.hid hmk
  obtain ⟨i0, hi0, hz0, hz1, hz2⟩ := info_parts (show (Tryd.prog.info? 46).map (fun i => (i.zero, i.size, i.bytes)) = some (some (.slice none 0 0), 1, 24) by kernel_rfl)
  clear hmk
  go_loopg [8] (names.length) (fun g i wx => ∃ (k : Nat) (v : Value) (R : Nat → Nat), i = .int .i64 k ∧ k ≤ names.length ∧ g = names.length - k ∧ Hid (MatN wa wx (w.heap.size + 1) A1 names c1 v k R (fun x y => decide (x = y))))
  case atStart => exact ⟨0, _, _, rfl, Nat.zero_le _, rfl, HM0⟩
  case round =>
    obtain ⟨k, v, R, rfl, hk, rfl, hmat⟩ := hrel
    by_cases hlt : k < names.length
    · have c1 := hmat.out.mat.box1
      have c0 := hmat.out.mat.box0
      have f1 := hmat.out.mat.boxf 1
      have hmk := HMK.out
      go_wp2_with fail
      have hgv : v.ownBlock ≠ some (w.heap.size + 1) := hmat.out.mat.apart
      have HOWN := Lib.hid hmat.out.mat.own
      have HMAT := hmat
      have hGlt := blk_lt hmat.out.mat.box
      have hws := hmat.out.mat.bel.size
      have hg1 : ¬ w.heap.size = wr.heap.size := by omega
      have hg2 : ¬ w.heap.size + 1 = wr.heap.size := by omega
      have hg3 : ¬ w.heap.size + 1 = wr.heap.size + 1 := by omega
      have hg4 : w.heap.size < wr.heap.size := by omega
      have cA : ((wr.alloc (.cells (rowB (fun _ _ => false) names.length 0).toArray 4)).alloc (.cells #[.slice (some ⟨wr.heap.size, 0, none⟩) names.length names.length] 46)).cell? ⟨w.heap.size + 1, 1, none⟩ = some v := (blk_cell (blk_below (blk_below hmat.out.mat.box (below_alloc (Below.refl _ _) _)) (below_alloc (Below.refl _ _) _)) 1).trans rfl
      go_region_law (first | (refine step_append_lies _ (by rfl) _ _ _ (by rfl) wa.heap.size 46 i0 _ 1 24 Tryd.underlying23 hi0 hz0 hz1 hz2 rfl (by omega) v k (rowV R names.length k) (by rfl) ((own_alloc (own_alloc HOWN.out _) _).drew) ⟨wr.heap.size + 1, 0, none⟩ 1 1 [.slice (some ⟨wr.heap.size, 0, none⟩) names.length names.length] (by rfl) (by rfl) (World.news_of_block (cs := #[.slice (some ⟨wr.heap.size, 0, none⟩) names.length names.length]) (t := 46) (fr := (0, 0)) (two_blocks wr _ _)) (by simp [Value.oneCell']) (by omega) (by unfold maxLen; omega) (by omega) (by simp; omega) (wr.heap.size + 2) (by simp) ?_; intro gg cap w3 hown3 hgrow hat hlt3; obtain ⟨cB, fB⟩ := Mat.box_after HMAT.out.mat hgrow))
      all_goals
        have hm2 := HMAT.out.push rfl rfl hown3 hgrow
        have hm3 := hm2.set (a := k) (b := k) (by omega) hlt true
        have hm4 := hm3.congr (M' := fun x y => decide (x = y)) (fun x y hx hy => by
          unfold upd
          by_cases h1 : x = k
          · subst h1
            by_cases h2 : y = x
            · subst h2; simp
            · simp [h2]; omega
          · simp [h1])
        simp only [if_true] at hm4
        have HM4 := Lib.hid hm4
        have d1 := hm2.mat.box1
        obtain ⟨ob, cap2, hv2, hcap, hrow⟩ := hm2.mat.order (by omega)
        have e1 := hrow k (by omega)
        obtain ⟨rfl, rfl⟩ : gg = ob ∧ cap = cap2 := by injection hv2 with h1 h2 h3; injection h1 with h1; injection h1 with h1; exact ⟨h1, h3⟩
        have e2 := hm2.mat.cell (i := k) (j := k) (by omega) hlt
        have e3 := hm2.mat.free (i := k) (by omega) k
        simp only [if_true] at e1 e2 e3
        clear hm2 hm3 hm4 hrow hv2 hgrow hown3 hat hlt3 cB fB HMAT HOWN hgv hGlt hws hmat hmk hg1 hg2 hg3 hg4 cA
        go_wp2
        go_roundg (names.length - (k + 1))
        case measure => omega
        case rel => exact ⟨k + 1, _, _, by go_num, by omega, rfl, HM4⟩
    · obtain rfl : k = names.length := by omega
      go_wp2_with fail
      have HFQ := Lib.hid (show ∀ W, Below w.heap.size w W → ∀ i, i < pairs.length → ∃ ad, Q = some ad ∧ W.cell? (ad.add (i * 2)) = some (.int .i64 (pairs.getD i (0, 0)).1) ∧ W.cell? ⟨(ad.add (i * 2)).block, (ad.add (i * 2)).off + 1, none⟩ = some (.int .i64 (pairs.getD i (0, 0)).2) from fun W hW i hi => C_pair_get (Kd.C_below HQ.out hW) hi)
      have HBX := Lib.hid (show ∀ W, Below wa.heap.size wa W → Below w.heap.size w W from fun W hW => below_step HB0.out hW)
      have HG4 := Lib.hid (show ∀ W, Below wa.heap.size wa W → W.heap[w.heap.size]? = some (.cells #[.slice none 0 0, .slice none 0 0] 25 (0, 0)) from fun W hW => blk_below HRB.out hW)
      have hm0 := hmat.out.congr (M' := initM (pairs.take 0)) (fun x y _ _ => by simp [initM])
      have HM0' := Lib.hid hm0
      clear hm0 hmat
      go_loopg [9] (pairs.length) (fun g i wx => ∃ (m : Nat), i = .int .i64 m ∧ m ≤ pairs.length ∧ g = pairs.length - m ∧ Hid (MatN wa wx (w.heap.size + 1) A1 names c1 v names.length R (initM (pairs.take m))) ∧ Hid (∀ j, j < m → okP names.length (pairs.getD j (0, 0))))
      case atStart => exact ⟨0, rfl, Nat.zero_le _, rfl, HM0', Lib.hid (fun j hj => absurd hj (by omega))⟩
      case round =>
        obtain ⟨m, rfl, hmm, rfl, hmat, hok⟩ := hrel
        by_cases hlt : m < pairs.length
        · obtain ⟨qa, hqa, hx, hy⟩ := HFQ.out _ (HBX.out _ hmat.out.mat.bel) m hlt
          subst hqa
          obtain ⟨x, hxx⟩ : ∃ x, x = (pairs.getD m (0, 0)).1 := ⟨_, rfl⟩
          obtain ⟨y, hyy⟩ : ∃ y, y = (pairs.getD m (0, 0)).2 := ⟨_, rfl⟩
          rw [← hxx] at hx
          rw [← hyy] at hy
          have HXX := Lib.hid hxx
          have HYY := Lib.hid hyy
          clear hxx hyy
          have BAD := Lib.hid (show ¬ okP names.length (x, y) → MakeSaid names pairs noLat 10 from fun hbad => .inr (.inl ⟨hn, hm, fun h => by
            have := h _ (getD_mem hlt)
            unfold okP at this hbad
            rw [← HXX.out, ← HYY.out] at this
            exact hbad this, rfl, rfl⟩))
          have FIN := Lib.hid (show ∀ (nq : Nat), (wr.drewN nq).heap[w.heap.size]? = some (.cells #[.slice none 0 0, .slice none 0 0] 25 (0, 0)) ∧ Below w.heap.size w (wr.drewN nq) from fun nq => ⟨HG4.out wr hmat.out.mat.bel, pw_below_drewN (HBX.out _ hmat.out.mat.bel) nq⟩)
          have HMR := hmat
          clear hmat
          go_wp2_with fail
          go_quiet (fail)
          obtain ⟨hg4, hbel4⟩ := FIN.out nq
          have HW4 := Lib.hid hg4
          have HBL := Lib.hid hbel4
          clear hg4 hbel4
          by_cases hx0 : x < 0
          · have HSAID := Lib.hid (BAD.out (by unfold okP; omega))
            have k0 : (wr.drewN nq).cell? ⟨w.heap.size, 0, none⟩ = some (.slice none 0 0) := (blk_cell HW4.out 0).trans rfl
            have k1 : (wr.drewN nq).cell? ⟨w.heap.size, 1, none⟩ = some (.slice none 0 0) := (blk_cell HW4.out 1).trans rfl
            have f0 := blk_frozen HW4.out 0
            have f1 := blk_frozen HW4.out 1
            go_wp2
            exact bodyPost_ret (results_ct rfl _ _ w.heap.size 25 #[.slice none 0 0, .slice none 0 0] (0, 0) _ rfl (blk_put (blk_put HW4.out 0 _ rfl) 1 _ rfl) Tryd.underlying25 rfl rfl) rfl ⟨noLat, 10, none, 0, none, 0, rfl, LR_no _, HSAID.out, below_set (below_set HBL.out (Nat.le_refl _)) (Nat.le_refl _)⟩
          by_cases hy0 : y < 0
          · have HSAID := Lib.hid (BAD.out (by unfold okP; omega))
            have k0 : (wr.drewN nq).cell? ⟨w.heap.size, 0, none⟩ = some (.slice none 0 0) := (blk_cell HW4.out 0).trans rfl
            have k1 : (wr.drewN nq).cell? ⟨w.heap.size, 1, none⟩ = some (.slice none 0 0) := (blk_cell HW4.out 1).trans rfl
            have f0 := blk_frozen HW4.out 0
            have f1 := blk_frozen HW4.out 1
            go_wp2
            exact bodyPost_ret (results_ct rfl _ _ w.heap.size 25 #[.slice none 0 0, .slice none 0 0] (0, 0) _ rfl (blk_put (blk_put HW4.out 0 _ rfl) 1 _ rfl) Tryd.underlying25 rfl rfl) rfl ⟨noLat, 10, none, 0, none, 0, rfl, LR_no _, HSAID.out, below_set (below_set HBL.out (Nat.le_refl _)) (Nat.le_refl _)⟩
          by_cases hxn : (names.length : Int) ≤ x
          · have HSAID := Lib.hid (BAD.out (by unfold okP; omega))
            have k0 : (wr.drewN nq).cell? ⟨w.heap.size, 0, none⟩ = some (.slice none 0 0) := (blk_cell HW4.out 0).trans rfl
            have k1 : (wr.drewN nq).cell? ⟨w.heap.size, 1, none⟩ = some (.slice none 0 0) := (blk_cell HW4.out 1).trans rfl
            have f0 := blk_frozen HW4.out 0
            have f1 := blk_frozen HW4.out 1
            go_wp2
            exact bodyPost_ret (results_ct rfl _ _ w.heap.size 25 #[.slice none 0 0, .slice none 0 0] (0, 0) _ rfl (blk_put (blk_put HW4.out 0 _ rfl) 1 _ rfl) Tryd.underlying25 rfl rfl) rfl ⟨noLat, 10, none, 0, none, 0, rfl, LR_no _, HSAID.out, below_set (below_set HBL.out (Nat.le_refl _)) (Nat.le_refl _)⟩
          by_cases hyn : (names.length : Int) ≤ y
          · have HSAID := Lib.hid (BAD.out (by unfold okP; omega))
            have k0 : (wr.drewN nq).cell? ⟨w.heap.size, 0, none⟩ = some (.slice none 0 0) := (blk_cell HW4.out 0).trans rfl
            have k1 : (wr.drewN nq).cell? ⟨w.heap.size, 1, none⟩ = some (.slice none 0 0) := (blk_cell HW4.out 1).trans rfl
            have f0 := blk_frozen HW4.out 0
            have f1 := blk_frozen HW4.out 1
            go_wp2
            exact bodyPost_ret (results_ct rfl _ _ w.heap.size 25 #[.slice none 0 0, .slice none 0 0] (0, 0) _ rfl (blk_put (blk_put HW4.out 0 _ rfl) 1 _ rfl) Tryd.underlying25 rfl rfl) rfl ⟨noLat, 10, none, 0, none, 0, rfl, LR_no _, HSAID.out, below_set (below_set HBL.out (Nat.le_refl _)) (Nat.le_refl _)⟩
          have hx1 : x < (names.length : Int) := by omega
          have hy1 : y < (names.length : Int) := by omega
          have hx2 : 0 ≤ x := by omega
          have hy2 : 0 ≤ y := by omega
          clear hx0 hy0 hxn hyn
          obtain ⟨a, rfl⟩ := Int.eq_ofNat_of_zero_le hx2
          obtain ⟨b, rfl⟩ := Int.eq_ofNat_of_zero_le hy2
          have ha : a < names.length := by omega
          have hb : b < names.length := by omega
          have hmA := HMR.out.after (pw_below_drewN (Below.refl _ _) nq)
          have d1 := hmA.mat.box1
          obtain ⟨ob, cap, hv, hcap, hrow⟩ := hmA.mat.order (by omega)
          have e1 := hrow a ha
          have e2 := hmA.mat.cell ha hb
          have e3 := hmA.mat.free ha b
          rw [hv] at d1
          have hmB := hmA.set ha hb true
          have hmC := hmB.congr (M' := initM (pairs.take (m + 1))) (fun p q _ _ => by rw [take_snoc hlt, initM_snoc HXX.out.symm HYY.out.symm])
          have HMC := Lib.hid hmC
          clear hmA hrow hmB hmC hv
          go_wp2
          go_roundg (pairs.length - (m + 1))
          case measure => omega
          case rel => exact ⟨m + 1, by go_num, by omega, rfl, HMC, Lib.hid (fun j hj => by
            rcases Nat.lt_or_ge j m with h | h
            · exact hok.out j h
            · obtain rfl : j = m := by omega
              unfold okP
              rw [← HXX.out, ← HYY.out]
              omega)⟩
        · obtain rfl : m = pairs.length := by omega
          have hall : ∀ p ∈ pairs, okP names.length p := fun p hp => by
            obtain ⟨j, hj, rfl⟩ := List.getElem_of_mem hp
            have := hok.out j hj
            rwa [List.getD_eq_getElem?_getD, List.getElem?_eq_getElem hj] at this
          have HALL := Lib.hid hall
          have hmat1 := hmat.out
          rw [List.take_length] at hmat1
          have HM1 := Lib.hid hmat1
          clear hall hmat1 hok hmat
          go_wp2_with fail
          go_loopg [12] (cnt names.length (initM pairs) + 1) (fun g i wx => ∃ (more : Bool) (M : Nat → Nat → Bool), i = .bool more ∧ g = (if more = true then cnt names.length M + 1 else 0) ∧ Hid (MatN wa wx (w.heap.size + 1) A1 names c1 v names.length R M) ∧ Hid (Held names.length (initM pairs) M) ∧ Hid (more = false → TransM names.length M))
          case atStart => exact ⟨true, _, rfl, rfl, HM1, Lib.hid Held.start, Lib.hid (fun h => by cases h)⟩
          case round =>
            obtain ⟨more, M0, rfl, rfl, hmat, hheld, htr⟩ := hrel
            cases more with
            | true =>
              have HRS := Lib.hid (round_start (n := names.length) (M0 := M0))
              go_wp2_with fail
              go_loopg [12, 13] (names.length) (fun g mo i wx => ∃ (a : Nat) (more : Bool) (M : Nat → Nat → Bool), mo = .bool more ∧ i = .int .i64 a ∧ a ≤ names.length ∧ g = names.length - a ∧ Hid (MatN wa wx (w.heap.size + 1) A1 names c1 v names.length R M) ∧ Hid (Held names.length (initM pairs) M) ∧ Hid (Round names.length M0 M more a 0 0))
              case atStart => exact ⟨0, false, M0, rfl, rfl, Nat.zero_le _, rfl, hmat, hheld, HRS⟩
              case round =>
                clear hmat hheld HRS
                obtain ⟨a, more, M, rfl, rfl, ha0, rfl, hmat, hheld, hrnd⟩ := hrel
                by_cases ha : a < names.length
                · go_wp2_with fail
                  go_loopg [12, 14] (names.length) (fun g mo i wx => ∃ (b : Nat) (more : Bool) (M : Nat → Nat → Bool), mo = .bool more ∧ i = .int .i64 b ∧ b ≤ names.length ∧ g = names.length - b ∧ Hid (MatN wa wx (w.heap.size + 1) A1 names c1 v names.length R M) ∧ Hid (Held names.length (initM pairs) M) ∧ Hid (Round names.length M0 M more a b 0))
                  case atStart => exact ⟨0, more, M, rfl, rfl, Nat.zero_le _, rfl, hmat, hheld, hrnd⟩
                  case round =>
                    clear hmat hheld hrnd
                    obtain ⟨b, more, M, rfl, rfl, hb0, rfl, hmat, hheld, hrnd⟩ := hrel
                    by_cases hb : b < names.length
                    · go_wp2_with fail
                      go_loopg [12, 15] (names.length) (fun g mo i wx => ∃ (k : Nat) (more : Bool) (M : Nat → Nat → Bool), mo = .bool more ∧ i = .int .i64 k ∧ k ≤ names.length ∧ g = names.length - k ∧ Hid (MatN wa wx (w.heap.size + 1) A1 names c1 v names.length R M) ∧ Hid (Held names.length (initM pairs) M) ∧ Hid (Round names.length M0 M more a b k))
                      case atStart => exact ⟨0, more, M, rfl, rfl, Nat.zero_le _, rfl, hmat, hheld, hrnd⟩
                      case round =>
                        clear hmat hheld hrnd
                        obtain ⟨k, more, M, rfl, rfl, hk0, rfl, hmat, hheld, hrnd⟩ := hrel
                        by_cases hk : k < names.length
                        · have d1 := hmat.out.mat.box1
                          obtain ⟨ob, cap, hv, hcap, hrow⟩ := hmat.out.mat.order (by omega)
                          rw [hv] at d1
                          have ra := hrow a ha
                          have rb := hrow b hb
                          have q1 := hmat.out.mat.cell ha hb
                          have q2 := hmat.out.mat.cell hb hk
                          have q3 := hmat.out.mat.cell ha hk
                          have f1 := hmat.out.mat.free ha k
                          obtain ⟨u1, hu1⟩ : ∃ u, u = M a b := ⟨_, rfl⟩
                          obtain ⟨u2, hu2⟩ : ∃ u, u = M b k := ⟨_, rfl⟩
                          obtain ⟨u3, hu3⟩ : ∃ u, u = M a k := ⟨_, rfl⟩
                          rw [← hu1] at q1
                          rw [← hu2] at q2
                          rw [← hu3] at q3
                          have HU1 := Lib.hid hu1
                          have HU2 := Lib.hid hu2
                          have HU3 := Lib.hid hu3
                          clear hu1 hu2 hu3 hrow hv
                          cases u1 with
                          | false =>
                            have HN := Lib.hid (round_skip hrnd.out (fun h _ => by rw [← HU1.out] at h; cases h))
                            go_wp2
                            go_roundg (names.length - (k + 1))
                            case measure => omega
                            case rel => exact ⟨k + 1, more, M, rfl, by go_num, by omega, rfl, hmat, hheld, HN⟩
                          | true =>
                            cases u2 with
                            | false =>
                              have HN := Lib.hid (round_skip hrnd.out (fun _ h => by rw [← HU2.out] at h; cases h))
                              go_wp2
                              go_roundg (names.length - (k + 1))
                              case measure => omega
                              case rel => exact ⟨k + 1, more, M, rfl, by go_num, by omega, rfl, hmat, hheld, HN⟩
                            | true =>
                              cases u3 with
                              | true =>
                                have HN := Lib.hid (round_skip hrnd.out (fun _ _ => HU3.out.symm))
                                go_wp2
                                go_roundg (names.length - (k + 1))
                                case measure => omega
                                case rel => exact ⟨k + 1, more, M, rfl, by go_num, by omega, rfl, hmat, hheld, HN⟩
                              | false =>
                                have HN := Lib.hid (round_set hrnd.out ha hk HU3.out.symm)
                                have HH := Lib.hid (hheld.out.upd ha hb hk HU1.out.symm HU2.out.symm)
                                have HW := Lib.hid (hmat.out.set ha hk true)
                                go_wp2
                                go_roundg (names.length - (k + 1))
                                case measure => omega
                                case rel => exact ⟨k + 1, true, _, rfl, by go_num, by omega, rfl, HW, HH, HN⟩
                        · obtain rfl : k = names.length := by omega
                          have HN := Lib.hid (round_row hrnd.out)
                          go_wp2
                          go_roundg (names.length - (b + 1))
                          case measure => omega
                          case rel => exact ⟨b + 1, more, M, rfl, by go_num, by omega, rfl, hmat, hheld, HN⟩
                    · obtain rfl : b = names.length := by omega
                      have HN := Lib.hid (round_col hrnd.out)
                      go_wp2
                      go_roundg (names.length - (a + 1))
                      case measure => omega
                      case rel => exact ⟨a + 1, more, M, rfl, by go_num, by omega, rfl, hmat, hheld, HN⟩
                · obtain rfl : a = names.length := by omega
                  have HE := Lib.hid (round_end hrnd.out)
                  go_wp2
                  go_roundg (if more = true then cnt names.length M + 1 else 0)
                  case measure => exact HE.out.2
                  case rel => exact ⟨more, M, rfl, rfl, hmat, hheld, Lib.hid HE.out.1⟩
            | false =>
              have M := M0
              have HCLO := Lib.hid (hheld.out.clo (htr.out rfl))
              obtain ⟨B, d, hv, hLR⟩ := hmat.out.reads
              have hcall := RefFormed.formed_calls (latOf names M0) A1 B c1 d _ hLR HNS.out
              rw [show (latOf names M0).names.length = names.length from rfl] at hcall
              subst hv
              obtain ⟨ol, hol⟩ : ∃ ol, ol = (latOf names M0).order.length := ⟨_, rfl⟩
              rw [← hol] at hmat hcall
              have HOL := Lib.hid hol
              obtain ⟨t, ht⟩ : ∃ t, t = formedB (latOf names M0) := ⟨_, rfl⟩
              rw [← ht] at hcall
              have HC := Lib.hid hcall
              have HT := Lib.hid ht
              have b0 := hmat.out.mat.box0
              have b1 := hmat.out.mat.box1
              have HGLT := Lib.hid (show w.heap.size < wa.heap.size by rw [HSZ.out]; omega)
              clear hcall ht hLR hol
              cases t with
              | false =>
                have HSAID : Hid (MakeSaid names pairs noLat 4) := Lib.hid (.inr (.inr ⟨hn, hm, HALL.out, M0, HCLO.out, .inr ⟨HT.out.symm, rfl, rfl⟩⟩))
                go_wp2_with fail
                refine HC.out.mono ?_
                rintro e w6 ⟨rfl, hb6⟩
                have hm6 := hmat.out.after hb6
                have hw4 := HG4.out w6 hm6.mat.bel
                have HW4 := Lib.hid hw4
                have HBL := Lib.hid (HBX.out _ hm6.mat.bel)
                have k0 : w6.cell? ⟨w.heap.size, 0, none⟩ = some (.slice none 0 0) := (blk_cell hw4 0).trans rfl
                have k1 : w6.cell? ⟨w.heap.size, 1, none⟩ = some (.slice none 0 0) := (blk_cell hw4 1).trans rfl
                have f0 := blk_frozen hw4 0
                have f1 := blk_frozen hw4 1
                clear hw4 hm6 hb6
                go_wp2
                exact bodyPost_ret (results_ct rfl _ _ w.heap.size 25 #[.slice none 0 0, .slice none 0 0] (0, 0) _ rfl (blk_put (blk_put HW4.out 0 _ rfl) 1 _ rfl) Tryd.underlying25 rfl rfl) rfl ⟨noLat, 4, none, 0, none, 0, rfl, LR_no _, HSAID.out, below_set (below_set HBL.out (Nat.le_refl _)) (Nat.le_refl _)⟩
              | true =>
                have HSAID : Hid (MakeSaid names pairs (latOf names M0) 0) := Lib.hid (.inr (.inr ⟨hn, hm, HALL.out, M0, HCLO.out, .inl ⟨HT.out.symm, rfl, rfl⟩⟩))
                go_wp2_with fail
                refine HC.out.mono ?_
                rintro e w6 ⟨rfl, hb6⟩
                have hm6 := hmat.out.after hb6
                have hw4 := HG4.out w6 hm6.mat.bel
                have HW4 := Lib.hid hw4
                have HM6 := Lib.hid hm6
                have HBL := Lib.hid (HBX.out _ hm6.mat.bel)
                have k0 : w6.cell? ⟨w.heap.size, 0, none⟩ = some (.slice none 0 0) := (blk_cell hw4 0).trans rfl
                have k1 : w6.cell? ⟨w.heap.size, 1, none⟩ = some (.slice none 0 0) := (blk_cell hw4 1).trans rfl
                have f0 := blk_frozen hw4 0
                have f1 := blk_frozen hw4 1
                have g0 := hm6.mat.box0
                have g1 := hm6.mat.box1
                clear hw4 hm6 hb6 b0 b1
                go_wp2
                obtain ⟨B', d', hv', hLR'⟩ := HM6.out.reads_put (q := w.heap.size) HGLT.out (.slice A1 names.length c1) (.slice B ol d)
                obtain ⟨rfl, _, rfl⟩ : B = B' ∧ ol = (latOf names M0).order.length ∧ d = d' := by injection hv' with h1 h2 h3; exact ⟨h1, h2, h3⟩
                exact bodyPost_ret (results_ct rfl _ _ w.heap.size 25 #[.slice A1 names.length c1, .slice B ol d] (0, 0) _ rfl (blk_put (blk_put HW4.out 0 _ rfl) 1 _ rfl) Tryd.underlying25 rfl rfl) rfl ⟨latOf names M0, 0, A1, c1, B, d, by rw [HOL.out]; rfl, hLR', HSAID.out, below_set (below_set HBL.out (Nat.le_refl _)) (Nat.le_refl _)⟩
set_option maxRecDepth 100000 in
set_option maxHeartbeats 1600000 in
theorem make_calls (names : List ByteArray) (pairs : List (Int × Int)) (A Q : Option Addr) (c cq : Nat) (w : World) (hA : Kd.string.C w A names.length names) (hQ : (Kd.pair (Kd.int .i64) (Kd.int .i64)).C w Q pairs.length pairs) (hs : ∀ s ∈ names, s.size ≤ 9223372036854775807) :
    Calls Tryd.prog 16 #[.slice A names.length c, .slice Q pairs.length cq] w fun e w' => MakePost w names pairs e w' := by
  by_cases hn : names.length ≤ 8
  · by_cases hm : pairs.length ≤ 64
    · exact make_few names pairs A Q c cq w hA hQ hs hn hm
    · have HSAID : Hid (MakeSaid names pairs noLat 1) := Lib.hid (.inl ⟨fun h => hm h.2, rfl, rfl⟩)
      have bk := blk_new w (.cells #[.slice none 0 0, .slice none 0 0] 25)
      have HBK := Lib.hid bk
      have hb0 := below_alloc (Below.refl w.heap.size w) (.cells #[.slice none 0 0, .slice none 0 0] 25)
      have HB0 := Lib.hid hb0
      have b1 := (C_len hA).2
      have b2 := (C_len hQ).2
      clear hA hQ hs bk hb0
      go_enter Tryd.func16, Tryd.ntmps16
      go_wp2
      exact bodyPost_ret (results_ct rfl _ _ w.heap.size 25 #[.slice none 0 0, .slice none 0 0] (0, 0) _ rfl HBK.out Tryd.underlying25 rfl rfl) rfl ⟨noLat, 1, none, 0, none, 0, rfl, LR_no _, HSAID.out, HB0.out⟩
  · have HSAID : Hid (MakeSaid names pairs noLat 1) := Lib.hid (.inl ⟨fun h => hn h.1, rfl, rfl⟩)
    have bk := blk_new w (.cells #[.slice none 0 0, .slice none 0 0] 25)
    have HBK := Lib.hid bk
    have hb0 := below_alloc (Below.refl w.heap.size w) (.cells #[.slice none 0 0, .slice none 0 0] 25)
    have HB0 := Lib.hid hb0
    have b1 := (C_len hA).2
    have b2 := (C_len hQ).2
    clear hA hQ hs bk hb0
    go_enter Tryd.func16, Tryd.ntmps16
    go_wp2
    exact bodyPost_ret (results_ct rfl _ _ w.heap.size 25 #[.slice none 0 0, .slice none 0 0] (0, 0) _ rfl HBK.out Tryd.underlying25 rfl rfl) rfl ⟨noLat, 1, none, 0, none, 0, rfl, LR_no _, HSAID.out, HB0.out⟩
end Go.Proofs.YtokogcfcaehifaaDoor.RefMake
