/- The program's lattice package: right, Leq, Join, Meet, Top, each at every lattice. Condition: the two tables of unicode/utf8 are laid. -/
import Derived.Test.YtokogcfcaehifaaDoorLatF
namespace Go.Proofs.YtokogcfcaehifaaDoor.LatLeq
set_option linter.unusedVariables false
open Go.RowKit Go.Proofs.YtokogcfcaehifaaDoorW.PrintWords Go.Proofs.YtokogcfcaehifaaDoor.Aux Go.Proofs.YtokogcfcaehifaaDoor.LatSpec Go.Proofs.YtokogcfcaehifaaDoor.LatWalk Go.Proofs.YtokogcfcaehifaaDoor.LatF
/-- The tables of unicode/utf8 are laid, now and in all that comes. -/
def Tb (w : World) : Prop := ∀ W, Below w.heap.size w W → Lib.Utf8Tabs 0 1 W
theorem Tb.below {w w1 : World} (h : Tb w) (hb : Below w.heap.size w w1) : Tb w1 := fun W hW => h W (below_step hb hW)
theorem Tb.here {w : World} (h : Tb w) : Lib.Utf8Tabs 0 1 w := h w (Below.refl _ _)
/-- Names of a size that is. -/
def Ns (l : Lat) : Prop := ∀ s ∈ l.names, s.size ≤ 9223372036854775807
theorem formed_c (l : Lat) (A B : Option Addr) (c d : Nat) (w : World) (h : LR w l A c B d) (hs : Ns l) (hT : Tb w) :
    Calls Tryd.prog 11 #[.agg #[.slice A l.names.length c, .slice B l.order.length d]] w fun e w' => e = .returned (.bool (formedB l)) ∧ Below w.heap.size w w' :=
  formed_calls l A B c d w h hs hT.here hT
/-- A lattice in its box: what is read of it in all worlds to come. -/
theorem boxed {w : World} {l : Lat} {A B : Option Addr} {c d n m : Nat} (h : LR w l A c B d) (hT : Tb w) : ∀ W, Below (w.alloc (.cells #[.slice A n c, .slice B m d] 25)).heap.size (w.alloc (.cells #[.slice A n c, .slice B m d] 25)) W → W.cell? ⟨w.heap.size, 0, none⟩ = some (.slice A n c) ∧ W.cell? ⟨w.heap.size, 1, none⟩ = some (.slice B m d) ∧ LR W l A c B d ∧ Below w.heap.size w W ∧ Tb W := fun W hW => by
  have hb1 := below_alloc (Below.refl w.heap.size w) (.cells #[.slice A n c, .slice B m d] 25)
  have bk := blk_below (blk_new w _) hW
  exact ⟨(blk_cell bk 0).trans rfl, (blk_cell bk 1).trans rfl, h.below (below_step hb1 hW), below_step hb1 hW, hT.below (below_step hb1 hW)⟩
theorem alloc_size (w : World) (o : Obj) : (w.alloc o).heap.size = w.heap.size + 1 := by simp
def labB (l : Lat) (xs : List Int) : Bool := xs.all fun a => decide (0 ≤ a) && decide (a < l.names.length)
noncomputable def rightB (l : Lat) (xs : List Int) : Bool := labB l xs && formedB l
theorem labB_false {l : Lat} {xs : List Int} {k : Nat} (hk : k < xs.length) (h : ¬ (0 ≤ xs.getD k 0 ∧ xs.getD k 0 < l.names.length)) : rightB l xs = false := by
  have : labB l xs = false := by
    rw [labB, List.all_eq_false]
    refine ⟨xs.getD k 0, ?_, ?_⟩
    · rw [List.getD_eq_getElem?_getD, List.getElem?_eq_getElem hk]; exact List.getElem_mem hk
    · simp only [Bool.and_eq_true, decide_eq_true_eq]; exact fun h' => h h'
  rw [rightB, this]; rfl
theorem labB_true {l : Lat} {xs : List Int} (h : ∀ j, j < xs.length → 0 ≤ xs.getD j 0 ∧ xs.getD j 0 < l.names.length) : rightB l xs = formedB l := by
  have : labB l xs = true := by
    rw [labB, List.all_eq_true]
    intro x hx
    obtain ⟨j, hj, rfl⟩ := List.getElem_of_mem hx
    have := h j hj
    rw [List.getD_eq_getElem?_getD, List.getElem?_eq_getElem hj] at this
    simpa using this
  rw [rightB, this]; rfl
set_option maxRecDepth 100000 in
set_option maxHeartbeats 1600000 in
theorem right_calls (l : Lat) (A B L : Option Addr) (c d cl : Nat) (xs : List Int) (w : World) (h : LR w l A c B d) (hs : Ns l) (hT : Tb w) (hx : (Kd.int .i64).C w L xs.length xs) :
    Calls Tryd.prog 43 #[.agg #[.slice A l.names.length c, .slice B l.order.length d], .slice L xs.length cl] w fun e w' => e = .returned (.bool (rightB l xs)) ∧ Below w.heap.size w w' := by
  have hF := boxed (n := l.names.length) (m := l.order.length) h hT
  have hFx : ∀ W, Below w.heap.size w W → ∀ i, i < xs.length → ∃ ad, L = some ad ∧ W.cell? (ad.add i) = some (.int .i64 (xs.getD i 0)) := fun W hW i hi => C_int_get (Kd.C_below hx hW) hi
  have HF := Lib.hid hF
  have HFX := Lib.hid hFx
  have hmx := (C_len hx).2
  have hmn := (C_len h.2.2.1).2
  have hmo := (C_len h.2.2.2).2
  have HS := Lib.hid hs
  clear hF hFx hx h hs hT
  go_enter Tryd.func43, Tryd.ntmps43
  go_wp2_with fail
  go_loopg [9] (xs.length) (fun g i wr => ∃ k : Nat, i = .int .i64 k ∧ k ≤ xs.length ∧ g = xs.length - k ∧ (w.alloc (.cells #[.slice A l.names.length c, .slice B l.order.length d] 25)) = wr ∧ Hid (∀ j, j < k → 0 ≤ xs.getD j 0 ∧ xs.getD j 0 < l.names.length))
  case atStart => exact ⟨0, rfl, Nat.zero_le _, rfl, rfl, Lib.hid (fun j hj => absurd hj (by omega))⟩
  case round =>
    obtain ⟨k, rfl, hk, rfl, rfl, hall⟩ := hrel
    obtain ⟨c0, c1, hl, hbw, htb⟩ := HF.out _ (Below.refl _ _)
    have HBW := Lib.hid hbw
    by_cases hlt : k < xs.length
    · obtain ⟨ad, hL, hc⟩ := HFX.out _ hbw k hlt
      subst hL
      obtain ⟨x, hxx⟩ : ∃ x, x = xs.getD k 0 := ⟨_, rfl⟩
      rw [← hxx] at hc
      have HXX := Lib.hid hxx
      clear hxx hbw hl htb
      by_cases h0 : 0 ≤ x
      · by_cases h1 : x < l.names.length
        · have hall2 : ∀ j, j < k + 1 → 0 ≤ xs.getD j 0 ∧ xs.getD j 0 < l.names.length := fun j hj => by
            rcases Nat.lt_or_ge j k with h | h
            · exact hall.out j h
            · obtain rfl : j = k := by omega
              rw [← HXX.out]; exact ⟨h0, h1⟩
          have HALL := Lib.hid hall2
          clear hall2
          go_wp2
          go_roundg (xs.length - (k + 1))
          case measure => omega
          case rel => exact ⟨k + 1, by go_num, by omega, rfl, rfl, HALL⟩
        · have hres : rightB l xs = false := labB_false hlt (by rw [← HXX.out]; omega)
          have HRES := Lib.hid hres
          clear hres
          go_wp2
          go_ret
          exact ⟨ret_bool HRES.out.symm, HBW.out⟩
      · have hres : rightB l xs = false := labB_false hlt (by rw [← HXX.out]; omega)
        have HRES := Lib.hid hres
        clear hres
        go_wp2
        go_ret
        exact ⟨ret_bool HRES.out.symm, HBW.out⟩
    · obtain rfl : k = xs.length := by omega
      have hres : rightB l xs = formedB l := labB_true hall.out
      have HRES := Lib.hid hres
      have hc := formed_c l A B c d _ hl HS.out htb
      have HC := Lib.hid hc
      clear hres hc hl htb hbw
      go_wp2_with (go_at_call 11; refine HC.out.mono ?_; rintro e w3 ⟨rfl, hb3⟩)
      go_ret
      exact ⟨ret_bool HRES.out.symm, below_step HBW.out hb3⟩
theorem formed_Sq {l : Lat} (h : formedB l = true) : Sq l := by
  have f := of_formedB h
  exact Sq_of f.few.2 f.sq fun i hi => (f.nm i hi).2.2
theorem right_iff {l : Lat} {a b : Int} : rightB l [a, b] = true ↔ (∃ x y : Nat, a = x ∧ b = y ∧ x < l.names.length ∧ y < l.names.length) ∧ formedB l = true := by
  simp only [rightB, labB, List.all_cons, List.all_nil, Bool.and_eq_true, decide_eq_true_eq, Bool.and_true]
  constructor
  · rintro ⟨⟨⟨h1, h2⟩, h3, h4⟩, h5⟩
    exact ⟨⟨a.toNat, b.toNat, by omega, by omega, by omega, by omega⟩, h5⟩
  · rintro ⟨⟨x, y, rfl, rfl, h1, h2⟩, h3⟩
    exact ⟨⟨⟨by omega, by omega⟩, by omega, by omega⟩, h3⟩
theorem C_two {W : World} {g : Nat} {a b : Int} {t : TypeId} (h : W.heap[g]? = some (.cells #[.int .i64 a, .int .i64 b] t (0, 0))) : (Kd.int .i64).C W (some ⟨g, 0, none⟩) 2 [a, b] := by
  refine ⟨rfl, by omega, fun _ => ⟨_, rfl, fun j p hj => ?_⟩⟩
  match j, hj with
  | 0, hj =>
    obtain rfl : a = p := by simpa using hj
    exact ⟨_, rfl, rfl, fun i u hu => by
      match i, hu with
      | 0, hu => obtain rfl : Value.int .i64 a = u := by simpa [Kd.int, Kd.scalar] using hu
                 exact (blk_cell h 0).trans rfl⟩
  | 1, hj =>
    obtain rfl : b = p := by simpa using hj
    exact ⟨_, rfl, rfl, fun i u hu => by
      match i, hu with
      | 0, hu => obtain rfl : Value.int .i64 b = u := by simpa [Kd.int, Kd.scalar] using hu
                 exact (blk_cell h 1).trans rfl⟩
noncomputable def leqB (l : Lat) (a b : Int) : Bool := rightB l [a, b] && ord l a.toNat b.toNat
noncomputable def joinI (l : Lat) (ab : Bool) (a b : Int) : Int := if rightB l [a, b] then boundN l ab a.toNat b.toNat else -1
set_option maxRecDepth 100000 in
set_option maxHeartbeats 1600000 in
theorem leq_calls (l : Lat) (A B : Option Addr) (c d : Nat) (a b : Int) (w : World) (h : LR w l A c B d) (hs : Ns l) (hT : Tb w) :
    Calls Tryd.prog 18 #[.agg #[.slice A l.names.length c, .slice B l.order.length d], .int .i64 a, .int .i64 b] w fun e w' => e = .returned (.bool (leqB l a b)) ∧ Below w.heap.size w w' := by
  have hF := boxed (n := l.names.length) (m := l.order.length) h hT
  have hb2 := below_alloc (Below.refl (w.alloc (.cells #[.slice A l.names.length c, .slice B l.order.length d] 25)).heap.size (w.alloc (.cells #[.slice A l.names.length c, .slice B l.order.length d] 25))) (.cells #[.int .i64 a, .int .i64 b] 3)
  obtain ⟨c0, c1, hl, hbw, htb⟩ := hF _ hb2
  have hxs := C_two (blk_new (w.alloc (.cells #[.slice A l.names.length c, .slice B l.order.length d] 25)) (.cells #[.int .i64 a, .int .i64 b] 3))
  have hsz : (w.alloc (.cells #[.slice A l.names.length c, .slice B l.order.length d] 25)).heap.size = w.heap.size + 1 := alloc_size w _
  rw [hsz] at hxs
  clear hsz
  have hcall := right_calls l A B _ c d 2 [a, b] _ hl hs htb hxs
  have HF := Lib.hid hF
  have HB2 := Lib.hid hb2
  have HBW := Lib.hid hbw
  obtain ⟨t, ht⟩ : ∃ t, t = rightB l [a, b] := ⟨_, rfl⟩
  rw [← ht] at hcall
  have HCALL := Lib.hid hcall
  clear hcall hF hb2 hl htb hxs hbw h hs hT
  cases t with
  | false =>
    have hres : leqB l a b = false := by rw [leqB, ← ht]; rfl
    have HRES := Lib.hid hres
    clear hres ht
    go_enter Tryd.func18, Tryd.ntmps18
    go_wp2_with (go_at_call 43; refine HCALL.out.mono ?_; rintro e w3 ⟨rfl, hb3⟩)
    go_ret
    exact ⟨ret_bool HRES.out.symm, below_step HBW.out hb3⟩
  | true =>
    obtain ⟨⟨x, y, rfl, rfl, hx, hy⟩, hf⟩ := right_iff.1 ht.symm
    have hres : leqB l x y = ord l x y := by rw [leqB, ← ht]; rfl
    obtain ⟨v, hv⟩ : ∃ v, v = ord l x y := ⟨_, rfl⟩
    rw [← hv] at hres
    have HV := Lib.hid hv
    have HRES := Lib.hid hres
    have hq := formed_Sq hf
    have HQ := Lib.hid hq
    have h1000 := hq.2.2
    clear hres ht hv hq hf c0 c1
    go_enter Tryd.func18, Tryd.ntmps18
    go_wp2_with fail
    refine HCALL.out.mono ?_
    rintro e w3 ⟨rfl, hb3⟩
    obtain ⟨c0, c1, hl, hbw, htb⟩ := HF.out _ (below_step HB2.out hb3)
    obtain ⟨ad, R, cx, hBB, hrow, hcell⟩ := LR.sk hl HQ.out (by omega)
    subst hBB
    rw [HQ.out.1] at c1
    have ra := hrow x hx
    have rb := hcell x y hx hy
    rw [← HV.out] at rb
    have HBW3 := Lib.hid hbw
    clear hl htb hrow hcell hbw hb3
    go_wp2
    go_ret
    exact ⟨ret_bool HRES.out.symm, HBW3.out⟩
end Go.Proofs.YtokogcfcaehifaaDoor.LatLeq
