/- The program's lattice package: Join, Meet, Both, Top, each at every lattice. Condition: the two tables of unicode/utf8 are laid. -/
import Derived.Test.YtokogcfcaehifaaDoorLatLeq
namespace Go.Proofs.YtokogcfcaehifaaDoor.LatJoin
set_option linter.unusedVariables false
open Go.RowKit Go.Proofs.YtokogcfcaehifaaDoorW.PrintWords Go.Proofs.YtokogcfcaehifaaDoor.Aux Go.Proofs.YtokogcfcaehifaaDoor.LatSpec Go.Proofs.YtokogcfcaehifaaDoor.LatWalk Go.Proofs.YtokogcfcaehifaaDoor.LatF Go.Proofs.YtokogcfcaehifaaDoor.LatLeq
set_option maxRecDepth 100000 in
set_option maxHeartbeats 1600000 in
theorem join_calls (l : Lat) (A B : Option Addr) (c d : Nat) (a b : Int) (w : World) (h : LR w l A c B d) (hs : Ns l) (hT : Tb w) :
    Calls Tryd.prog 19 #[.agg #[.slice A l.names.length c, .slice B l.order.length d], .int .i64 a, .int .i64 b] w fun e w' => e = .returned (.int .i64 (joinI l true a b)) ∧ Below w.heap.size w w' := by
  have hF := boxed (n := l.names.length) (m := l.order.length) h hT
  have hb2 := below_alloc (Below.refl (w.alloc (.cells #[.slice A l.names.length c, .slice B l.order.length d] 25)).heap.size (w.alloc (.cells #[.slice A l.names.length c, .slice B l.order.length d] 25))) (.cells #[.int .i64 a, .int .i64 b] 3)
  obtain ⟨c0, c1, hl, hbw, htb⟩ := hF _ hb2
  have hxs := C_two (blk_new (w.alloc (.cells #[.slice A l.names.length c, .slice B l.order.length d] 25)) (.cells #[.int .i64 a, .int .i64 b] 3))
  rw [alloc_size] at hxs
  have hcall := right_calls l A B _ c d 2 [a, b] _ hl hs htb hxs
  have HF := Lib.hid hF
  have HB2 := Lib.hid hb2
  have HBW := Lib.hid hbw
  obtain ⟨t, ht⟩ : ∃ t, t = rightB l [a, b] := ⟨_, rfl⟩
  rw [← ht] at hcall
  have HCALL := Lib.hid hcall
  clear hcall hF hb2 hl htb hxs hbw h hs hT
  cases t with
  | false =>
    have hres : joinI l true a b = -1 := by rw [joinI, ← ht]; rfl
    have HRES := Lib.hid hres
    clear hres ht
    go_enter Tryd.func19, Tryd.ntmps19
    go_wp2_with (go_at_call 43; refine HCALL.out.mono ?_; rintro e w3 ⟨rfl, hb3⟩)
    go_ret
    exact ⟨ret_int HRES.out.symm, below_step HBW.out hb3⟩
  | true =>
    obtain ⟨⟨x, y, rfl, rfl, hx, hy⟩, hf⟩ := right_iff.1 ht.symm
    have hres : joinI l true x y = boundN l true x y := by rw [joinI, ← ht]; rfl
    have HRES := Lib.hid hres
    have hq := formed_Sq hf
    have HQ := Lib.hid hq
    have h1000 := hq.2.2
    clear hres ht hq hf c0 c1
    go_enter Tryd.func19, Tryd.ntmps19
    go_wp2_with fail
    refine HCALL.out.mono ?_
    rintro e w3 ⟨rfl, hb3⟩
    obtain ⟨c0, c1, hl, hbw, htb⟩ := HF.out _ (below_step HB2.out hb3)
    have hbd := bound_calls l A B c d true x y _ hl HQ.out hx hy
    have HBD := Lib.hid hbd
    have HBW3 := Lib.hid hbw
    clear hl htb hbw hb3 hbd
    go_wp2_with (go_at_call 36; refine HBD.out.mono ?_; rintro e w4 ⟨rfl, hb4⟩)
    go_ret
    exact ⟨ret_int HRES.out.symm, below_step HBW3.out hb4⟩
set_option maxRecDepth 100000 in
set_option maxHeartbeats 1600000 in
theorem meet_calls (l : Lat) (A B : Option Addr) (c d : Nat) (a b : Int) (w : World) (h : LR w l A c B d) (hs : Ns l) (hT : Tb w) :
    Calls Tryd.prog 20 #[.agg #[.slice A l.names.length c, .slice B l.order.length d], .int .i64 a, .int .i64 b] w fun e w' => e = .returned (.int .i64 (joinI l false a b)) ∧ Below w.heap.size w w' := by
  have hF := boxed (n := l.names.length) (m := l.order.length) h hT
  have hb2 := below_alloc (Below.refl (w.alloc (.cells #[.slice A l.names.length c, .slice B l.order.length d] 25)).heap.size (w.alloc (.cells #[.slice A l.names.length c, .slice B l.order.length d] 25))) (.cells #[.int .i64 a, .int .i64 b] 3)
  obtain ⟨c0, c1, hl, hbw, htb⟩ := hF _ hb2
  have hxs := C_two (blk_new (w.alloc (.cells #[.slice A l.names.length c, .slice B l.order.length d] 25)) (.cells #[.int .i64 a, .int .i64 b] 3))
  rw [alloc_size] at hxs
  have hcall := right_calls l A B _ c d 2 [a, b] _ hl hs htb hxs
  have HF := Lib.hid hF
  have HB2 := Lib.hid hb2
  have HBW := Lib.hid hbw
  obtain ⟨t, ht⟩ : ∃ t, t = rightB l [a, b] := ⟨_, rfl⟩
  rw [← ht] at hcall
  have HCALL := Lib.hid hcall
  clear hcall hF hb2 hl htb hxs hbw h hs hT
  cases t with
  | false =>
    have hres : joinI l false a b = -1 := by rw [joinI, ← ht]; rfl
    have HRES := Lib.hid hres
    clear hres ht
    go_enter Tryd.func20, Tryd.ntmps20
    go_wp2_with (go_at_call 43; refine HCALL.out.mono ?_; rintro e w3 ⟨rfl, hb3⟩)
    go_ret
    exact ⟨ret_int HRES.out.symm, below_step HBW.out hb3⟩
  | true =>
    obtain ⟨⟨x, y, rfl, rfl, hx, hy⟩, hf⟩ := right_iff.1 ht.symm
    have hres : joinI l false x y = boundN l false x y := by rw [joinI, ← ht]; rfl
    have HRES := Lib.hid hres
    have hq := formed_Sq hf
    have HQ := Lib.hid hq
    have h1000 := hq.2.2
    clear hres ht hq hf c0 c1
    go_enter Tryd.func20, Tryd.ntmps20
    go_wp2_with fail
    refine HCALL.out.mono ?_
    rintro e w3 ⟨rfl, hb3⟩
    obtain ⟨c0, c1, hl, hbw, htb⟩ := HF.out _ (below_step HB2.out hb3)
    have hbd := bound_calls l A B c d false x y _ hl HQ.out hx hy
    have HBD := Lib.hid hbd
    have HBW3 := Lib.hid hbw
    clear hl htb hbw hb3 hbd
    go_wp2_with (go_at_call 36; refine HBD.out.mono ?_; rintro e w4 ⟨rfl, hb4⟩)
    go_ret
    exact ⟨ret_int HRES.out.symm, below_step HBW3.out hb4⟩
/-- The join of all labels up to k. -/
def topN (l : Lat) : Nat → Int
  | 0 => 0
  | k + 1 => boundN l true (topN l k).toNat k
noncomputable def topI (l : Lat) : Int := if formedB l then topN l l.names.length else -1
theorem bound_lt {l : Lat} {ab : Bool} {a b : Nat} : boundN l ab a b < l.names.length ∨ l.names.length = 0 := by
  unfold boundN
  split
  · rename_i c hc
    have := List.mem_of_find?_eq_some hc
    simp at this
    omega
  · omega
theorem bound_ok {l : Lat} (hf : formedB l = true) {ab : Bool} {a b : Nat} (ha : a < l.names.length) (hb : b < l.names.length) : 0 ≤ boundN l ab a b ∧ boundN l ab a b < l.names.length := by
  have h1 := (of_formedB hf).bounds a b ha hb
  have h2 := @bound_lt l ab a b
  have h3 : -1 ≤ boundN l ab a b := by unfold boundN; split <;> omega
  have h4 : boundN l ab a b ≠ -1 := by cases ab; exact h1.2; exact h1.1
  omega
theorem topN_ok {l : Lat} (hf : formedB l = true) : ∀ k, k ≤ l.names.length → 0 ≤ topN l k ∧ topN l k < l.names.length
  | 0, _ => ⟨Int.le_refl _, by have := (of_formedB hf).few.1; simp only [topN]; omega⟩
  | k + 1, h => by
    have h1 := topN_ok hf k (by omega)
    exact bound_ok hf (by omega) (by omega)
set_option maxRecDepth 100000 in
set_option maxHeartbeats 1600000 in
theorem top_calls (l : Lat) (A B : Option Addr) (c d : Nat) (w : World) (h : LR w l A c B d) (hs : Ns l) (hT : Tb w) :
    Calls Tryd.prog 22 #[.agg #[.slice A l.names.length c, .slice B l.order.length d]] w fun e w' => e = .returned (.int .i64 (topI l)) ∧ Below w.heap.size w w' := by
  have hF := boxed (n := l.names.length) (m := l.order.length) h hT
  obtain ⟨c0, c1, hl, hbw, htb⟩ := hF _ (Below.refl _ _)
  have hcall := formed_c l A B c d _ hl hs htb
  have HF := Lib.hid hF
  have HBW := Lib.hid hbw
  obtain ⟨t, ht⟩ : ∃ t, t = formedB l := ⟨_, rfl⟩
  rw [← ht] at hcall
  have HCALL := Lib.hid hcall
  have hmn := (C_len h.2.2.1).2
  clear hcall hF hl htb hbw h hs hT
  cases t with
  | false =>
    have hres : topI l = -1 := by rw [topI, ← ht]; rfl
    have HRES := Lib.hid hres
    clear hres ht
    go_enter Tryd.func22, Tryd.ntmps22
    go_wp2_with (go_at_call 11; refine HCALL.out.mono ?_; rintro e w3 ⟨rfl, hb3⟩)
    go_ret
    exact ⟨ret_int HRES.out.symm, below_step HBW.out hb3⟩
  | true =>
    have hres : topI l = topN l l.names.length := by rw [topI, ← ht]; rfl
    have HRES := Lib.hid hres
    have hq := formed_Sq ht.symm
    have HFM := Lib.hid ht.symm
    have HQ := Lib.hid hq
    clear hres ht hq c0 c1
    go_enter Tryd.func22, Tryd.ntmps22
    go_wp2_with fail
    refine HCALL.out.mono ?_
    rintro e w3 ⟨rfl, hb3⟩
    have HB3 := Lib.hid hb3
    obtain ⟨c0, c1, hl, hbw, htb⟩ := HF.out _ hb3
    clear hl hbw htb hb3
    go_wp2_with fail
    go_loopg [3, 11] (l.names.length) (fun g t i wr => ∃ k : Nat, i = .int .i64 k ∧ t = .int .i64 (topN l k) ∧ k ≤ l.names.length ∧ g = l.names.length - k ∧ Hid (Below (w.alloc (.cells #[.slice A l.names.length c, .slice B l.order.length d] 25)).heap.size (w.alloc (.cells #[.slice A l.names.length c, .slice B l.order.length d] 25)) wr))
    case atStart => exact ⟨0, rfl, rfl, Nat.zero_le _, rfl, HB3⟩
    case round =>
      obtain ⟨k, rfl, rfl, hk, rfl, hbr⟩ := hrel
      obtain ⟨c0, c1, hl, hbw, htb⟩ := HF.out _ hbr.out
      have HBWR := Lib.hid hbw
      by_cases hlt : k < l.names.length
      · obtain ⟨t0, t1⟩ := topN_ok HFM.out k hk
        obtain ⟨T, hT⟩ : ∃ T : Nat, topN l k = T := ⟨(topN l k).toNat, by omega⟩
        rw [hT] at t0 t1
        have hbd := bound_calls l A B c d true T k _ hl HQ.out (by omega) hlt
        rw [hT]
        have hnx : topN l (k + 1) = boundN l true T k := by rw [topN, hT]; rfl
        rw [← hnx] at hbd
        have HBD := Lib.hid hbd
        clear hbd hl htb hbw hT hnx
        go_wp2_with (go_at_call 36; refine HBD.out.mono ?_; rintro e w4 ⟨rfl, hb4⟩; have hb4' := below_step hbr.out hb4; have HB4 := Lib.hid hb4'; clear hb4 hb4')
        go_roundg (l.names.length - (k + 1))
        case measure => omega
        case rel => exact ⟨k + 1, by go_num, rfl, by omega, rfl, HB4⟩
      · obtain rfl : k = l.names.length := by omega
        clear hl hbw htb
        go_wp2
        go_ret
        exact ⟨ret_int HRES.out.symm, HBWR.out⟩
end Go.Proofs.YtokogcfcaehifaaDoor.LatJoin
