/- The law palisadelaw01.LatticeNames answers true at every two lattices and every text. Condition: the two tables of unicode/utf8 are laid. -/
import Derived.Test.YtokogcfcaehifaaDoorAwake
import Derived.Test.YtokogcfcaehifaaDoorAsk
import Derived.Deep.RegionHeld3
import Derived.BigRegion
namespace Go.Proofs.YtokogcfcaehifaaDoor.LawNames
set_option linter.unusedVariables false
open Go.RowKit Go.Proofs.YtokogcfcaehifaaDoorW.PrintWords Go.Proofs.YtokogcfcaehifaaDoor.Aux Go.Proofs.YtokogcfcaehifaaDoor.LatSpec Go.Proofs.YtokogcfcaehifaaDoor.LatWalk Go.Proofs.YtokogcfcaehifaaDoor.LatF Go.Proofs.YtokogcfcaehifaaDoor.LatLeq Go.Proofs.YtokogcfcaehifaaDoor.LatJoin Go.Proofs.YtokogcfcaehifaaDoor.MakeSpec Go.Proofs.YtokogcfcaehifaaDoor.Mat Go.Proofs.YtokogcfcaehifaaDoor.MakeW Go.Proofs.YtokogcfcaehifaaDoor.AwakeSpec Go.Proofs.YtokogcfcaehifaaDoor.Awake Go.Proofs.YtokogcfcaehifaaDoor.SameW Go.Proofs.YtokogcfcaehifaaDoor.Ask
/-! ### plain -/
theorem find_at {l : Lat} (hf : formedB l = true) {k : Nat} (hk : k < l.names.length) : findI l (l.names.getD k ByteArray.empty) = k := by
  have f := of_formedB hf
  rw [findI, if_pos hf]
  refine idxS_found hk rfl (fun j hj he => ?_)
  have h1 := (f.nm k hk).2.1
  refine h1 ?_
  rw [← he]
  exact mem_take (by omega) hj
open Classical in
noncomputable def heldB (l : Lat) (s : ByteArray) (k : Nat) : Bool := (List.range k).any fun j => decide (l.names.getD j ByteArray.empty = s)
theorem held_zero (l : Lat) (s : ByteArray) : heldB l s 0 = false := by simp [heldB]
theorem held_succ (l : Lat) (s : ByteArray) (k : Nat) : heldB l s (k + 1) = (heldB l s k || eqB (l.names.getD k ByteArray.empty) s) := by
  simp only [heldB, List.range_succ, List.any_append, List.any_cons, List.any_nil, Bool.or_false]
  congr 1
  by_cases h : l.names.getD k ByteArray.empty = s
  · rw [eqB_true h, decide_eq_true h]
  · rw [eqB_false h, decide_eq_false h]
theorem held_yes {l : Lat} {s : ByteArray} {k : Nat} (h : l.names.getD k ByteArray.empty = s) : heldB l s (k + 1) = true := by rw [held_succ, eqB_true h, Bool.or_true]
theorem held_no {l : Lat} {s : ByteArray} {k : Nat} (h : l.names.getD k ByteArray.empty ≠ s) : heldB l s (k + 1) = heldB l s k := by rw [held_succ, eqB_false h, Bool.or_false]
theorem held_mono {l : Lat} {s : ByteArray} {k : Nat} (h : heldB l s k = true) : heldB l s (k + 1) = true := by rw [held_succ, h, Bool.true_or]
theorem held_all {l : Lat} (hf : formedB l = true) (s : ByteArray) : (heldB l s l.names.length = true ∧ 0 ≤ findI l s) ∨ (heldB l s l.names.length = false ∧ findI l s = -1) := by
  rw [findI, if_pos hf]
  cases h : heldB l s l.names.length with
  | true =>
    simp only [heldB, List.any_eq_true, List.mem_range, decide_eq_true_eq] at h
    obtain ⟨j, hj, he⟩ := h
    refine .inl ⟨rfl, idxS_mem.2 ?_⟩
    rw [← he, List.getD_eq_getElem?_getD, List.getElem?_eq_getElem hj]
    exact List.getElem_mem hj
  | false =>
    simp only [heldB, List.any_eq_false, List.mem_range, decide_eq_true_eq] at h
    exact .inr ⟨rfl, idxS_none h⟩
theorem find_unformed {l : Lat} (hf : formedB l = false) (s : ByteArray) : findI l s = -1 := by rw [findI, hf]; rfl
theorem below_split (l : Lat) (a : Int) {b n : Nat} (h : b < n) (hl : leqB l b a = true) : (belowN l a b).length < (belowN l a n).length ∧ (belowN l a n).getD (belowN l a b).length 0 = b := by
  obtain ⟨m, rfl⟩ : ∃ m, n = b + 1 + m := ⟨n - (b + 1), by omega⟩
  clear h
  induction m with
  | zero => rw [Nat.add_zero, belowN_yes hl]; simp
  | succ m ih =>
    obtain ⟨h1, h2⟩ := ih
    cases h : leqB l ((b + 1 + m : Nat) : Int) a with
    | true =>
      rw [← Nat.add_assoc, belowN_yes h]
      refine ⟨by simp; omega, ?_⟩
      rw [List.getD_eq_getElem?_getD, List.getElem?_append_left h1, ← List.getD_eq_getElem?_getD]
      exact h2
    | false =>
      rw [← Nat.add_assoc, belowN_no h]
      exact ⟨h1, h2⟩
theorem below_len_yes {l : Lat} {a : Int} {b : Nat} (h : leqB l b a = true) : (belowN l a (b + 1)).length = (belowN l a b).length + 1 := by rw [belowN_yes h]; simp
theorem held_step {l : Lat} {s x : ByteArray} {k : Nat} (hx : x = l.names.getD k ByteArray.empty) (h : heldB l s k = false) : heldB l s (k + 1) = (x.toList == s.toList) := by
  by_cases he : x = s
  · rw [held_yes (by rw [← hx, he]), he, str_eq]
  · rw [held_no (by rw [← hx]; exact he), h, str_ne he]
set_option maxRecDepth 100000 in
set_option maxHeartbeats 6400000 in
theorem law_calls (l k : Lat) (A B A2 B2 : Option Addr) (c d c2 d2 : Nat) (s : ByteArray) (w : World) (h : LR w l A c B d) (hs : Ns l) (hk : LR w k A2 c2 B2 d2) (hsk : Ns k) (hss : s.size ≤ 9223372036854775807) (hT : Tb w) :
    Calls Tryd.prog 7 #[.agg #[.slice A l.names.length c, .slice B l.order.length d], .agg #[.slice A2 k.names.length c2, .slice B2 k.order.length d2], .string s] w fun e w' => e = .returned (.bool true) ∧ Below w.heap.size w w' := by
  have hF := boxed2 (n := l.names.length) (m := l.order.length) (n2 := k.names.length) (m2 := k.order.length) h hk
  obtain ⟨W0, hW0⟩ : ∃ W0, W0 = (w.alloc (.cells #[.slice A l.names.length c, .slice B l.order.length d] 25)).alloc (.cells #[.slice A2 k.names.length c2, .slice B2 k.order.length d2] 25) := ⟨_, rfl⟩
  rw [← hW0] at hF
  have HW0 : Hid (Below W0.heap.size W0 ((w.alloc (.cells #[.slice A l.names.length c, .slice B l.order.length d] 25)).alloc (.cells #[.slice A2 k.names.length c2, .slice B2 k.order.length d2] 25))) := Lib.hid (by rw [← hW0]; exact Below.refl _ _)
  clear hW0
  have HF := Lib.hid hF
  have HT := Lib.hid hT
  have HNS := Lib.hid hs
  have hmn := (C_len h.2.2.1).2
  have hmk := (C_len hk.2.2.1).2
  obtain ⟨c0, c1, e0, e1, _, _, hbw⟩ := hF _ HW0.out
  have HA := Lib.hid (show ∀ W, Below W0.heap.size W0 W → Calls Tryd.prog 9 #[] W fun e w' => e = .returned (.bool true) ∧ Below W0.heap.size W0 w' ∧ Below w.heap.size w w' from fun W hW => by
    refine (awake_calls W (HT.out.below (HF.out W hW).2.2.2.2.2.2)).mono ?_
    rintro e w' ⟨he, hb⟩
    exact ⟨he, below_step hW hb, (HF.out _ (below_step hW hb)).2.2.2.2.2.2⟩)
  obtain ⟨t, ht⟩ : ∃ t, t = smallB l := ⟨_, rfl⟩
  obtain ⟨u, hu⟩ : ∃ t, t = smallB k := ⟨_, rfl⟩
  have HS1 := Lib.hid (show ∀ W, Below W0.heap.size W0 W → Calls Tryd.prog 10 #[.agg #[.slice A l.names.length c, .slice B l.order.length d]] W fun e w' => e = .returned (.bool t) ∧ Below W0.heap.size W0 w' from fun W hW => by
    refine (small_calls l A B c d W (HF.out W hW).2.2.2.2.1).mono ?_
    rintro e w' ⟨he, hb⟩
    exact ⟨by rw [he, ht], below_step hW hb⟩)
  have HS2 := Lib.hid (show ∀ W, Below W0.heap.size W0 W → Calls Tryd.prog 10 #[.agg #[.slice A2 k.names.length c2, .slice B2 k.order.length d2]] W fun e w' => e = .returned (.bool u) ∧ Below W0.heap.size W0 w' from fun W hW => by
    refine (small_calls k A2 B2 c2 d2 W (HF.out W hW).2.2.2.2.2.1).mono ?_
    rintro e w' ⟨he, hb⟩
    exact ⟨by rw [he, hu], below_step hW hb⟩)
  have HTT := Lib.hid ht
  have KEEP := Lib.hid (show ∀ (f : Nat) (args : Array Value) (Q : Ending → World → Prop), (∀ W, LR W l A c B d → Tb W → Calls Tryd.prog f args W fun e w' => Q e w' ∧ Below W.heap.size W w') → ∀ W, Below W0.heap.size W0 W → Calls Tryd.prog f args W fun e w' => Q e w' ∧ Below W0.heap.size W0 w' ∧ w'.cell? ⟨w.heap.size, 0, none⟩ = some (.slice A l.names.length c) ∧ w'.cell? ⟨w.heap.size, 1, none⟩ = some (.slice B l.order.length d) ∧ Below W.heap.size W w' from fun f args Q hc W hW => by
    obtain ⟨_, _, _, _, hl1, _, hbw⟩ := hF W hW
    refine (hc W hl1 (hT.below hbw)).mono ?_
    rintro e w' ⟨he, hb⟩
    obtain ⟨k0, k1, _⟩ := hF _ (below_step hW hb)
    exact ⟨he, below_step hW hb, k0, k1, hb⟩)
  obtain ⟨fm, hfm⟩ : ∃ f, f = formedB l := ⟨_, rfl⟩
  obtain ⟨fv, hfv⟩ : ∃ f, f = findI l s := ⟨_, rfl⟩
  have KFM := Lib.hid (KEEP.out 11 #[.agg #[.slice A l.names.length c, .slice B l.order.length d]] (fun e _ => e = .returned (.bool fm)) (fun W hl htb => by rw [hfm]; exact formed_c l A B c d W hl hs htb))
  have KFS := Lib.hid (KEEP.out 24 #[.agg #[.slice A l.names.length c, .slice B l.order.length d], .string s] (fun e _ => e = .returned (.int .i64 fv)) (fun W hl htb => by rw [hfv]; exact find_calls l A B c d s W hl hs htb))
  have HFM := Lib.hid hfm
  have HFV := Lib.hid hfv
  clear hF hT hs h hk hsk hbw ht hu hfm hfv
  go_enter Tryd.func7, Tryd.ntmps7
  go_wp2_with fail
  refine (HA.out _ HW0.out).mono ?_
  rintro e w1 ⟨rfl, hb1, _⟩
  clear c0 c1 e0 e1
  obtain ⟨c0, c1, e0, e1, _, _, _⟩ := HF.out _ hb1
  go_wp2_with fail
  refine (HS1.out _ hb1).mono ?_
  rintro e w2 ⟨rfl, hb2⟩
  clear c0 c1 e0 e1 hb1
  obtain ⟨c0, c1, e0, e1, _, _, _⟩ := HF.out _ hb2
  cases t with
  | false =>
    go_wp2_with (go_at_call 9; refine (HA.out _ hb2).mono ?_; rintro e w3 ⟨rfl, _, hb3⟩)
    go_ret
    exact ⟨rfl, hb3⟩
  | true =>
    have hn100 : l.names.length ≤ 100 := by
      have := HTT.out
      simp only [smallB, Bool.true_eq, Bool.and_eq_true, decide_eq_true_eq] at this
      exact this.2
    go_wp2_with fail
    refine (HS2.out _ hb2).mono ?_
    rintro e w3 ⟨rfl, hb3⟩
    clear c0 c1 e0 e1 hb2
    obtain ⟨c0, c1, e0, e1, _, _, _⟩ := HF.out _ hb3
    cases u with
    | false =>
      go_wp2_with (go_at_call 9; refine (HA.out _ hb3).mono ?_; rintro e w4 ⟨rfl, _, hb4⟩)
      go_ret
      exact ⟨rfl, hb4⟩
    | true =>
      obtain ⟨v, hv⟩ : ∃ v, v = eqB l k := ⟨_, rfl⟩
      have KS := Lib.hid (show ∀ W, Below W0.heap.size W0 W → Calls Tryd.prog 23 #[.agg #[.slice A l.names.length c, .slice B l.order.length d], .agg #[.slice A2 k.names.length c2, .slice B2 k.order.length d2]] W fun e w' => e = .returned (.bool v) ∧ Below W0.heap.size W0 w' ∧ w'.cell? ⟨w.heap.size, 0, none⟩ = some (.slice A l.names.length c) ∧ w'.cell? ⟨w.heap.size, 1, none⟩ = some (.slice B l.order.length d) ∧ w'.cell? ⟨w.heap.size + 1, 0, none⟩ = some (.slice A2 k.names.length c2) ∧ w'.cell? ⟨w.heap.size + 1, 1, none⟩ = some (.slice B2 k.order.length d2) from fun W hW => by
        obtain ⟨_, _, _, _, hl1, hl2, _⟩ := HF.out W hW
        refine (same_calls l k A B A2 B2 c d c2 d2 W hl1 hl2).mono ?_
        rintro e w' ⟨he, hb⟩
        obtain ⟨k0, k1, k2, k3, _⟩ := HF.out _ (below_step hW hb)
        exact ⟨by rw [he, hv], below_step hW hb, k0, k1, k2, k3⟩)
      have KR := Lib.hid (show ∀ W, Below W0.heap.size W0 W → Calls Tryd.prog 17 #[.agg #[.slice A l.names.length c, .slice B l.order.length d], .agg #[.slice A2 k.names.length c2, .slice B2 k.order.length d2]] W fun e w' => e = .returned (.bool v) ∧ Below W0.heap.size W0 w' ∧ w'.cell? ⟨w.heap.size, 0, none⟩ = some (.slice A l.names.length c) ∧ w'.cell? ⟨w.heap.size, 1, none⟩ = some (.slice B l.order.length d) ∧ w'.cell? ⟨w.heap.size + 1, 0, none⟩ = some (.slice A2 k.names.length c2) ∧ w'.cell? ⟨w.heap.size + 1, 1, none⟩ = some (.slice B2 k.order.length d2) from fun W hW => by
        obtain ⟨_, _, _, _, hl1, hl2, _⟩ := HF.out W hW
        refine (refsame_calls l k A B A2 B2 c d c2 d2 W hl1 hl2).mono ?_
        rintro e w' ⟨he, hb⟩
        obtain ⟨k0, k1, k2, k3, _⟩ := HF.out _ (below_step hW hb)
        exact ⟨by rw [he, hv], below_step hW hb, k0, k1, k2, k3⟩)
      have KL := Lib.hid (show ∀ W, Below W0.heap.size W0 W → Calls Tryd.prog 23 #[.agg #[.slice A l.names.length c, .slice B l.order.length d], .agg #[.slice A l.names.length c, .slice B l.order.length d]] W fun e w' => e = .returned (.bool true) ∧ Below W0.heap.size W0 w' ∧ w'.cell? ⟨w.heap.size, 0, none⟩ = some (.slice A l.names.length c) ∧ w'.cell? ⟨w.heap.size, 1, none⟩ = some (.slice B l.order.length d) ∧ w'.cell? ⟨w.heap.size + 1, 0, none⟩ = some (.slice A2 k.names.length c2) ∧ w'.cell? ⟨w.heap.size + 1, 1, none⟩ = some (.slice B2 k.order.length d2) from fun W hW => by
        obtain ⟨_, _, _, _, hl1, hl2, _⟩ := HF.out W hW
        refine (same_calls l l A B A B c d c d W hl1 hl1).mono ?_
        rintro e w' ⟨he, hb⟩
        obtain ⟨k0, k1, k2, k3, _⟩ := HF.out _ (below_step hW hb)
        exact ⟨by rw [he, eqB_true rfl], below_step hW hb, k0, k1, k2, k3⟩)
      have v1 : (v != v) = false := by simp
      clear hv
      go_wp2_with fail
      go_region_held3 (fun w' => w'.cell? ⟨w.heap.size, 0, none⟩ = some (.slice A l.names.length c) ∧ w'.cell? ⟨w.heap.size, 1, none⟩ = some (.slice B l.order.length d) ∧ w'.cell? ⟨w.heap.size + 1, 0, none⟩ = some (.slice A2 k.names.length c2) ∧ w'.cell? ⟨w.heap.size + 1, 1, none⟩ = some (.slice B2 k.order.length d2))
        (first | go_keep | exact ⟨s0, s1, s2, s3⟩)
        (first | (go_at_call 17; refine (KR.out _ (by first | assumption | exact Below.drew (by assumption))).mono ?_; rintro e wa ⟨rfl, hba, s0, s1, s2, s3⟩) | (go_at_call 23; ((with_reducible refine (KS.out _ (by first | assumption | exact Below.drew (by assumption))).mono ?_); rintro e wa ⟨rfl, hba, s0, s1, s2, s3⟩)) | (go_at_call 23; ((with_reducible refine (KL.out _ (by first | assumption | exact Below.drew (by assumption))).mono ?_); rintro e wa ⟨rfl, hba, s0, s1, s2, s3⟩)))
      have HBA := Lib.hid hba
      clear hba
      go_wp2_with fail
      refine (KFM.out _ HBA.out).mono ?_
      rintro e wf ⟨rfl, hbf, c0, c1, _⟩
      have HBF := Lib.hid hbf
      clear s0 s1 s2 s3 e0 e1 hb3
      cases fm with
      | false =>
        obtain rfl : fv = -1 := by rw [HFV.out]; exact find_unformed HFM.out.symm s
        go_wp2_with (go_at_call 24; refine (KFS.out _ (by assumption)).mono ?_; rintro e w5 ⟨rfl, hb5, k0, k1, _⟩)
        go_ret
        exact ⟨rfl, (HF.out _ hb5).2.2.2.2.2.2⟩
      | true =>
        have HFT := Lib.hid HFM.out.symm
        clear HFM hbf
        go_wp2_with fail
        clear c0 c1
        go_loopg [7, 8] (l.names.length) (fun g hd i wx => ∃ a : Nat, i = .int .i64 a ∧ a ≤ l.names.length ∧ g = l.names.length - a ∧ hd = .bool (heldB l s a) ∧ Hid (Below W0.heap.size W0 wx))
        case atStart => exact ⟨0, rfl, Nat.zero_le _, rfl, by rw [held_zero], HBF⟩
        case round =>
          obtain ⟨a, rfl, ha0, rfl, rfl, hbr⟩ := hrel
          obtain ⟨c0, c1, _, _, hl, _, _⟩ := HF.out _ hbr.out
          by_cases ha : a < l.names.length
          · obtain ⟨ad, hA, hc⟩ := C_str_get hl.2.2.1 ha
            subst hA
            obtain ⟨x, hxx⟩ : ∃ x, x = l.names.getD a ByteArray.empty := ⟨_, rfl⟩
            rw [← hxx] at hc
            have KFA := Lib.hid (KEEP.out 24 #[.agg #[.slice (some ad) l.names.length c, .slice B l.order.length d], .string x] (fun e w' => e = .returned (.int .i64 a) ∧ w'.cell? (ad.add a) = some (.string x)) (fun W hl htb => by
              refine (find_calls l (some ad) B c d x W hl HNS.out htb).mono ?_
              rintro e w' ⟨he, hb⟩
              obtain ⟨ad2, e2, hc2⟩ := C_str_get (hl.below hb).2.2.1 ha
              injection e2 with e2
              subst e2
              rw [← hxx] at hc2
              exact ⟨⟨by rw [he, hxx, find_at HFT.out ha], hc2⟩, hb⟩))
            have KLE := Lib.hid (fun (b : Int) t (ht : leqB l b a = t) => KEEP.out 18 #[.agg #[.slice (some ad) l.names.length c, .slice B l.order.length d], .int .i64 b, .int .i64 a] (fun e _ => e = .returned (.bool t)) (fun W hl htb => by rw [← ht]; exact leq_calls l (some ad) B c d b a W hl HNS.out htb))
            have KBE := Lib.hid (KEEP.out 25 #[.agg #[.slice (some ad) l.names.length c, .slice B l.order.length d], .int .i64 a] (fun e w' => ∃ m A1 cc, m = (belowN l a l.names.length).length ∧ e = .returned (.slice A1 m cc) ∧ (Kd.int .i64).C w' A1 m (belowN l a l.names.length)) (fun W hl htb => by
              refine (below_calls l (some ad) B c d a W hl HNS.out htb hn100).mono ?_
              rintro e w' ⟨v, he, hR, hb⟩
              obtain ⟨A1, cc, hv, _, hC⟩ := Kd.R_reads hR
              exact ⟨⟨_, A1, cc, rfl, by rw [he, hv], hC⟩, hb⟩))
            obtain ⟨hb, hhb⟩ : ∃ t, t = heldB l s a := ⟨_, rfl⟩
            rw [← hhb]
            have HHB := Lib.hid hhb
            have HXX := Lib.hid hxx
            have hb0 := hbr.out
            clear hhb hxx hl
            go_wp2_with fail
            go_region_held3 (fun w' => w'.cell? ⟨w.heap.size, 0, none⟩ = some (.slice (some ad) l.names.length c) ∧ w'.cell? ⟨w.heap.size, 1, none⟩ = some (.slice B l.order.length d) ∧ w'.cell? (ad.add a) = some (.string x))
              (first | go_keep | exact ⟨s0, s1, s2⟩)
              ((go_at_call 24; refine (KFA.out _ (by first | assumption | exact Below.drew (by assumption))).mono ?_; rintro e wa ⟨⟨rfl, s2⟩, hba, s0, s1, _⟩))
            have HBA := Lib.hid hba
            clear hb0 c0 c1 hc
            have HST := Lib.hid (show heldB l s (a + 1) = (hb || (x.toList == s.toList)) by
              cases hb with
              | true => rw [held_mono HHB.out.symm]; rfl
              | false => rw [held_step HXX.out HHB.out.symm]; rfl)
            cases hb
            all_goals
              go_wp2_with fail
              refine (KBE.out _ HBA.out).mono ?_
              rintro e wb ⟨⟨m, A1, cc, hm, rfl, hC⟩, hbb, k0, k1, _⟩
              have HM := Lib.hid hm
              have HC := Lib.hid hC
              have HBB := Lib.hid hbb
              have HMN := (C_len hC).2
              have HM100 : m ≤ 100 := by rw [hm]; exact Nat.le_trans (belowN_len _ _ _) hn100
              clear s0 s1 s2 hba hm hC hbb k0 k1
              go_wp2_with fail
              go_loopg [10, 11] (l.names.length) (fun g ii i wx => ∃ b j : Nat, i = .int .i64 b ∧ b ≤ l.names.length ∧ g = l.names.length - b ∧ ii = .int .i64 j ∧ Hid (j = (belowN l a b).length) ∧ Hid (Below W0.heap.size W0 wx) ∧ Hid (Below wb.heap.size wb wx))
              case atStart => exact ⟨0, 0, rfl, Nat.zero_le _, rfl, rfl, Lib.hid rfl, HBB, Lib.hid (Below.refl _ _)⟩
              case round =>
                obtain ⟨b, j, rfl, hb0, rfl, rfl, hj, hbr3, hbr4⟩ := hrel
                have hjb : j ≤ b := by rw [hj.out]; exact belowN_len _ _ _
                obtain ⟨k0, k1, _, _, _, _, _⟩ := HF.out _ hbr3.out
                by_cases hb : b < l.names.length
                · obtain ⟨t, ht⟩ : ∃ t, leqB l b a = t := ⟨_, rfl⟩
                  have HT2 := Lib.hid ht
                  clear ht
                  go_wp2_with fail
                  refine (KLE.out _ t HT2.out _ hbr3.out).mono ?_
                  rintro e wq ⟨rfl, hbq, q0, q1, hbq2⟩
                  have HBQ := Lib.hid hbq
                  have HBQ2 := Lib.hid (below_step hbr4.out hbq2)
                  clear hbq hbq2 k0 k1
                  cases t with
                  | true =>
                    obtain ⟨hlt2, hget⟩ := below_split l a hb HT2.out
                    rw [← hj.out, ← HM.out] at hlt2
                    rw [← hj.out] at hget
                    obtain ⟨ad3, rfl, hcj⟩ := C_int_get (Kd.C_below HC.out HBQ2.out) hlt2
                    rw [hget] at hcj
                    have HJN := Lib.hid (show j + 1 = (belowN l a (b + 1)).length by rw [below_len_yes HT2.out, ← hj.out])
                    clear hget q0 q1
                    go_wp2
                    go_roundg (l.names.length - (b + 1))
                    case measure => omega
                    case rel => exact ⟨b + 1, j + 1, by go_num, by omega, rfl, by go_num, HJN, HBQ, HBQ2⟩
                  | false =>
                    have HJN := Lib.hid (show j = (belowN l a (b + 1)).length by rw [belowN_no HT2.out, ← hj.out])
                    clear q0 q1
                    go_wp2
                    go_roundg (l.names.length - (b + 1))
                    case measure => omega
                    case rel => exact ⟨b + 1, j, by go_num, by omega, rfl, rfl, HJN, HBQ, HBQ2⟩
                · obtain rfl : b = l.names.length := by omega
                  have hjm : ((j : Int) != (m : Int)) = false := len_eq (by rw [hj.out, HM.out])
                  go_wp2
                  go_roundg (l.names.length - (a + 1))
                  case measure => omega
                  case rel => exact ⟨a + 1, by go_num, by omega, rfl, by rw [HST.out]; rfl, hbr3⟩
          · obtain rfl : a = l.names.length := by omega
            have hb0 := hbr.out
            rcases held_all HFT.out s with ⟨g1, g2⟩ | ⟨g1, g2⟩
            · rw [g1]
              rw [← HFV.out] at g2
              have g3 : (fv != -1) = true := by rw [bne_iff_ne]; omega
              clear g1 hl
              go_wp2_with (go_at_call 24; refine (KFS.out _ (by assumption)).mono ?_; rintro e w5 ⟨rfl, hb5, k0, k1, _⟩)
              go_ret
              exact ⟨rfl, (HF.out _ hb5).2.2.2.2.2.2⟩
            · rw [g1]
              rw [← HFV.out] at g2
              subst g2
              clear g1 hl
              go_wp2_with (go_at_call 24; refine (KFS.out _ (by assumption)).mono ?_; rintro e w5 ⟨rfl, hb5, k0, k1, _⟩)
              go_ret
              exact ⟨rfl, (HF.out _ hb5).2.2.2.2.2.2⟩
end Go.Proofs.YtokogcfcaehifaaDoor.LawNames
