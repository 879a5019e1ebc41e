/- plain, Same of words that are alike, and awake. Conditions: what is laid. -/
import Derived.Test.YtfammikhejjjcaaDoorLex8
import Derived.BigRegion
import Derived.Lib.AtoiErrMem
import Derived.Deep.RegionHeld
namespace Go.Proofs.YtfammikhejjjcaaDoor.Lex
set_option linter.unusedVariables false
set_option linter.unusedSimpArgs false
open Go Go.Lib Go.RowKit Go.Proofs.YtfammikhejjjcaaDoorW.PrintWords Go.Proofs.YtfammikhejjjcaaDoor.Aux Go.Proofs.YtfammikhejjjcaaDoor.LatSpec Go.Proofs.YtfammikhejjjcaaDoor.LexSpec Go.Proofs.YtfammikhejjjcaaDoor.Kinds
abbrev zT : T := z36
theorem elT {w : World} {A : Option Addr} {n : Nat} {ts : List T} (h : kT.C w A n ts) {i : Nat} (hi : i < n) :
    ∃ ad, A = some ad ∧ w.cell? (ad.add (i * 4)) = some (.int .i64 (ts.getD i zT).f0) ∧ w.cell? ⟨(ad.add (i * 4)).block, (ad.add (i * 4)).off + 1, none⟩ = some (.string (ts.getD i zT).f1) ∧ w.cell? ⟨(ad.add (i * 4)).block, (ad.add (i * 4)).off + 2, none⟩ = some (.int .i64 (ts.getD i zT).f2) ∧ w.cell? ⟨(ad.add (i * 4)).block, (ad.add (i * 4)).off + 3, none⟩ = some (.int .i64 (ts.getD i zT).f3) := by
  obtain ⟨ad, e, h0, h1, h2, h3⟩ := at_T36 h (i : Int) (by omega) (by omega)
  rw [Int.toNat_natCast] at h0 h1 h2 h3
  exact ⟨ad, e, h0, h1, h2, h3⟩
theorem take_getD {ts : List T} {k : Nat} (h : k < ts.length) : ts.take (k + 1) = ts.take k ++ [ts.getD k zT] := by
  rw [List.take_add_one, List.getD_eq_getElem?_getD, List.getElem?_eq_getElem h]
  rfl
set_option maxRecDepth 100000 in
set_option maxHeartbeats 1600000 in
theorem plain_calls (ts : List T) (A : Option Addr) (c : Nat) (w : World) (h : kT.C w A ts.length ts) (hn : ts.length ≤ 2000) :
    Calls Tryd.prog 13 #[.slice A ts.length c] w fun e w' => ∃ v, e = .returned v ∧ kT.R 43 w' w.heap.size (fun _ => True) v ts ∧ Below w.heap.size w w' := by
  have H := Lib.hid h
  have HN0 := Lib.hid (show kT.R 43 w w.heap.size (fun _ => True) (.slice none 0 0) (ts.take 0) from Kd.R_nil _ _ _ _ _)
  clear h
  go_enter Tryd.func13, Tryd.ntmps13
  go_wp2_with fail
  go_loopg [3, 4] (ts.length) (fun g v i wr => ∃ k : Nat, i = .int .i64 k ∧ k ≤ ts.length ∧ g = ts.length - k ∧ Hid (Below w.heap.size w wr) ∧ Hid (kT.R 43 wr w.heap.size (fun _ => True) v (ts.take k)))
  case atStart => exact ⟨0, rfl, Nat.zero_le _, rfl, Lib.hid (Below.refl _ _), HN0⟩
  case round =>
    obtain ⟨k, rfl, hk, rfl, hbr, hR⟩ := hrel
    obtain ⟨A1, cc, rfl⟩ := Kd.R_slice hR.out
    have hlk : (ts.take k).length = k := by rw [List.length_take]; omega
    by_cases hlt : k < ts.length
    · obtain ⟨ad, hA, h0, h1, h2, h3⟩ := elT (Kd.C_below H.out hbr.out) hlt
      subst hA
      have HTK := Lib.hid (take_getD hlt)
      have HR := hR
      obtain ⟨x, hx⟩ : ∃ x, ts.getD k zT = x := ⟨_, rfl⟩
      rw [hx] at h0 h1 h2 h3 HTK
      obtain ⟨f0, f1, f2, f3⟩ := x
      dsimp only at h0 h1 h2 h3
      have hsz := hbr.out.size
      obtain ⟨tk, htk⟩ : ∃ l, ts.take k = l := ⟨_, rfl⟩
      rw [htk] at hR HTK hlk ⊢
      clear hx htk HR
      subst hlk
      go_wp2_with (at_builtin; (refine Kd.R_append kT (w0 := w) w.heap.size rfl (.tmp 11) (.tmp 16) 27 43 (.agg #[.int .i64 0, .string ⟨#[]⟩, .int .i64 0, .int .i64 0]) 40 rfl Tryd.underlying27 infoRTok rfl (by decide) (by omega) (.slice A1 tk.length cc) tk ⟨f0, f1, f2, f3⟩ [.int .i64 f0, .string f1, .int .i64 f2, .int .i64 f3] (fun _ => True) (fun _ => False) rfl rfl (k36_mkM _ _ _ _) (fun _ hf => hf.elim) (fun _ _ => trivial) hR.out hbr.out (by omega) (by omega) ?_); intro v1 w5 hR5 hb5 hg5 hat5; rw [← HTK.out] at hR5; have HR5 := Lib.hid hR5; have HB5 := Lib.hid hb5; clear hR5 hb5 hg5 hat5)
      go_roundg (ts.length - (tk.length + 1))
      case measure => omega
      case rel => exact ⟨tk.length + 1, by go_num, by omega, rfl, HB5, HR5⟩
    · obtain rfl : k = ts.length := by omega
      have hv : ∀ v, kT.R 43 wr w.heap.size (fun _ => True) v (ts.take ts.length) → kT.R 43 wr w.heap.size (fun _ => True) v ts := fun v h => by
        rw [List.take_length] at h
        exact h
      have HV := Lib.hid (hv _ hR.out)
      clear hv
      go_wp2
      go_ret
      exact ⟨_, rfl, HV.out, hbr.out⟩
theorem cell_al {w : World} {a : Addr} {v : Value} (o : Obj) (h : w.cell? a = some v) : (w.alloc o).cell? a = some v := (World.cell?_alloc_lt w o a (lt_of_cell h)).trans h
theorem cell_blk {w : World} {a : Addr} {v : Value} (h : w.cell? a = some v) : a.block < w.heap.size := lt_of_cell h
set_option maxRecDepth 100000 in
set_option maxHeartbeats 3200000 in
theorem same_calls (xs ys : List T) (A A2 : Option Addr) (c c2 : Nat) (bare : Bool) (w : World) (h : kT.C w A xs.length xs) (h2 : kT.C w A2 ys.length ys) (hl : ys.length = xs.length)
    (he : ∀ i, i < xs.length → (xs.getD i zT).f0 = (ys.getD i zT).f0 ∧ (xs.getD i zT).f1 = (ys.getD i zT).f1 ∧ (xs.getD i zT).f2 = (ys.getD i zT).f2 ∧ (bare = false → (xs.getD i zT).f3 = (ys.getD i zT).f3)) :
    Calls Tryd.prog 12 #[.slice A xs.length c, .slice A2 xs.length c2, .bool bare] w fun e w' => e = .returned (.bool true) ∧ Below w.heap.size w w' := by
  rw [hl] at h2
  have H := Lib.hid h
  have H2 := Lib.hid h2
  have HE := Lib.hid he
  have hm := (C_len h).2
  have e0 : ((xs.length : Int) != (xs.length : Int)) = false := by simp
  clear h h2 hl he
  go_enter Tryd.func12, Tryd.ntmps12
  go_wp2_with fail
  go_loopg [7] (xs.length) (fun g i wr => ∃ k : Nat, i = .int .i64 k ∧ k ≤ xs.length ∧ g = xs.length - k ∧ Hid (Below w.heap.size w wr))
  case atStart => exact ⟨0, rfl, Nat.zero_le _, rfl, Lib.hid (Below.refl _ _)⟩
  case round =>
    obtain ⟨k, rfl, hk, rfl, hbr⟩ := hrel
    by_cases hlt : k < xs.length
    · obtain ⟨ad, hA, a0, a1, a2, a3⟩ := elT (Kd.C_below H.out hbr.out) hlt
      obtain ⟨ad2, hA2, b0, b1, b2, b3⟩ := elT (Kd.C_below H2.out hbr.out) hlt
      subst hA
      subst hA2
      obtain ⟨q0, q1, q2, q3⟩ := HE.out k hlt
      obtain ⟨x, hx⟩ : ∃ x, xs.getD k zT = x := ⟨_, rfl⟩
      obtain ⟨y, hy⟩ : ∃ y, ys.getD k zT = y := ⟨_, rfl⟩
      rw [hx] at a0 a1 a2 a3 q0 q1 q2 q3
      rw [hy] at b0 b1 b2 b3 q0 q1 q2 q3
      obtain ⟨x0, x1, x2, x3⟩ := x
      obtain ⟨y0, y1, y2, y3⟩ := y
      dsimp only at a0 a1 a2 a3 b0 b1 b2 b3 q0 q1 q2 q3
      subst q0
      subst q1
      subst q2
      have s1 : (x1.toList == x1.toList) = true := by simp
      have s2 : (x0 == x0) = true := by simp
      have s3 : (x2 == x2) = true := by simp
      have s4 : (y3 == y3) = true := by simp
      have hxk : (0 : Int) ≤ k := by omega
      clear hx hy
      have a0l := cell_blk a0
      have a0p := fun o => cell_al o a0
      have a0q := fun o o2 => cell_al o2 (a0p o)
      have a0s := fun (W : World) j u => World.cell?_setCell_far W ⟨wr.heap.size, j, none⟩ (ad.add (k * 4)) u (by show wr.heap.size ≠ _; omega)
      have a0t := fun (W : World) j u => World.cell?_setCell_far W ⟨wr.heap.size + 1, j, none⟩ (ad.add (k * 4)) u (by show wr.heap.size + 1 ≠ _; omega)
      clear a0l
      have a1l := cell_blk a1
      have a1p := fun o => cell_al o a1
      have a1q := fun o o2 => cell_al o2 (a1p o)
      have a1s := fun (W : World) j u => World.cell?_setCell_far W ⟨wr.heap.size, j, none⟩ ⟨(ad.add (k * 4)).block, (ad.add (k * 4)).off + 1, none⟩ u (by show wr.heap.size ≠ _; omega)
      have a1t := fun (W : World) j u => World.cell?_setCell_far W ⟨wr.heap.size + 1, j, none⟩ ⟨(ad.add (k * 4)).block, (ad.add (k * 4)).off + 1, none⟩ u (by show wr.heap.size + 1 ≠ _; omega)
      clear a1l
      have a2l := cell_blk a2
      have a2p := fun o => cell_al o a2
      have a2q := fun o o2 => cell_al o2 (a2p o)
      have a2s := fun (W : World) j u => World.cell?_setCell_far W ⟨wr.heap.size, j, none⟩ ⟨(ad.add (k * 4)).block, (ad.add (k * 4)).off + 2, none⟩ u (by show wr.heap.size ≠ _; omega)
      have a2t := fun (W : World) j u => World.cell?_setCell_far W ⟨wr.heap.size + 1, j, none⟩ ⟨(ad.add (k * 4)).block, (ad.add (k * 4)).off + 2, none⟩ u (by show wr.heap.size + 1 ≠ _; omega)
      clear a2l
      have a3l := cell_blk a3
      have a3p := fun o => cell_al o a3
      have a3q := fun o o2 => cell_al o2 (a3p o)
      have a3s := fun (W : World) j u => World.cell?_setCell_far W ⟨wr.heap.size, j, none⟩ ⟨(ad.add (k * 4)).block, (ad.add (k * 4)).off + 3, none⟩ u (by show wr.heap.size ≠ _; omega)
      have a3t := fun (W : World) j u => World.cell?_setCell_far W ⟨wr.heap.size + 1, j, none⟩ ⟨(ad.add (k * 4)).block, (ad.add (k * 4)).off + 3, none⟩ u (by show wr.heap.size + 1 ≠ _; omega)
      clear a3l
      have b0l := cell_blk b0
      have b0p := fun o => cell_al o b0
      have b0q := fun o o2 => cell_al o2 (b0p o)
      have b0s := fun (W : World) j u => World.cell?_setCell_far W ⟨wr.heap.size, j, none⟩ (ad2.add (k * 4)) u (by show wr.heap.size ≠ _; omega)
      have b0t := fun (W : World) j u => World.cell?_setCell_far W ⟨wr.heap.size + 1, j, none⟩ (ad2.add (k * 4)) u (by show wr.heap.size + 1 ≠ _; omega)
      clear b0l
      have b1l := cell_blk b1
      have b1p := fun o => cell_al o b1
      have b1q := fun o o2 => cell_al o2 (b1p o)
      have b1s := fun (W : World) j u => World.cell?_setCell_far W ⟨wr.heap.size, j, none⟩ ⟨(ad2.add (k * 4)).block, (ad2.add (k * 4)).off + 1, none⟩ u (by show wr.heap.size ≠ _; omega)
      have b1t := fun (W : World) j u => World.cell?_setCell_far W ⟨wr.heap.size + 1, j, none⟩ ⟨(ad2.add (k * 4)).block, (ad2.add (k * 4)).off + 1, none⟩ u (by show wr.heap.size + 1 ≠ _; omega)
      clear b1l
      have b2l := cell_blk b2
      have b2p := fun o => cell_al o b2
      have b2q := fun o o2 => cell_al o2 (b2p o)
      have b2s := fun (W : World) j u => World.cell?_setCell_far W ⟨wr.heap.size, j, none⟩ ⟨(ad2.add (k * 4)).block, (ad2.add (k * 4)).off + 2, none⟩ u (by show wr.heap.size ≠ _; omega)
      have b2t := fun (W : World) j u => World.cell?_setCell_far W ⟨wr.heap.size + 1, j, none⟩ ⟨(ad2.add (k * 4)).block, (ad2.add (k * 4)).off + 2, none⟩ u (by show wr.heap.size + 1 ≠ _; omega)
      clear b2l
      have b3l := cell_blk b3
      have b3p := fun o => cell_al o b3
      have b3q := fun o o2 => cell_al o2 (b3p o)
      have b3s := fun (W : World) j u => World.cell?_setCell_far W ⟨wr.heap.size, j, none⟩ ⟨(ad2.add (k * 4)).block, (ad2.add (k * 4)).off + 3, none⟩ u (by show wr.heap.size ≠ _; omega)
      have b3t := fun (W : World) j u => World.cell?_setCell_far W ⟨wr.heap.size + 1, j, none⟩ ⟨(ad2.add (k * 4)).block, (ad2.add (k * 4)).off + 3, none⟩ u (by show wr.heap.size + 1 ≠ _; omega)
      clear b3l
      go_wp2_with fail
      go_region
      all_goals
        clear a0 a0p a0q a0s a0t a1 a1p a1q a1s a1t a2 a2p a2q a2s a2t a3 a3p a3q a3s a3t b0 b0p b0q b0s b0t b1 b1p b1q b1s b1t b2 b2p b2q b2s b2t b3 b3p b3q b3s b3t
        cases bare with
        | true =>
          go_wp2
          go_roundg (xs.length - (k + 1))
          case measure => omega
          case rel => exact ⟨k + 1, by go_num, by omega, rfl, Lib.hid (by repeat' (first | exact hbr.out | refine Below.drew ?_ | refine below_alloc ?_ _ | refine below_set ?_ (by have := hbr.out.size; omega)))⟩
        | false =>
          have q5 := q3 rfl
          subst q5
          go_wp2
          go_roundg (xs.length - (k + 1))
          case measure => omega
          case rel => exact ⟨k + 1, by go_num, by omega, rfl, Lib.hid (by repeat' (first | exact hbr.out | refine Below.drew ?_ | refine below_alloc ?_ _ | refine below_set ?_ (by have := hbr.out.size; omega)))⟩
    · obtain rfl : k = xs.length := by omega
      go_wp2
      go_ret
      exact ⟨rfl, hbr.out⟩
end Go.Proofs.YtfammikhejjjcaaDoor.Lex
