/- The law palisadelaw05.LexPlaces answers true at every text. Conditions: what is laid. -/
import Derived.Test.YtfammikhejjjcaaDoorLawFault
import Derived.Deep.QuietTactic
import Derived.BigQuiet
namespace Go.Proofs.YtfammikhejjjcaaDoor.Lex
set_option linter.unusedVariables false
set_option linter.unusedSimpArgs false
open Go Go.Lib Go.RowKit Go.Proofs.YtfammikhejjjcaaDoorW.PrintWords Go.Proofs.YtfammikhejjjcaaDoor.Aux Go.Proofs.YtfammikhejjjcaaDoor.LatSpec Go.Proofs.YtfammikhejjjcaaDoor.LexSpec Go.Proofs.YtfammikhejjjcaaDoor.Kinds
theorem emp_step {s : ByteArray} {p : Nat} {r : Bool} {b : Int} (hp : p < s.size) (hb : ∀ h : p < s.size, ((s[p]'h).toNat : Int) = b) (h : emp r (s.data.toList.drop p) = true) :
    (b = 10 ∧ emp false (s.data.toList.drop (p + 1)) = true) ∨ (b ≠ 10 ∧ b = 35 ∧ emp true (s.data.toList.drop (p + 1)) = true) ∨ (b ≠ 10 ∧ b ≠ 35 ∧ (r = true ∨ b = 32 ∨ b = 9) ∧ emp r (s.data.toList.drop (p + 1)) = true) := by
  have hlen : p < s.data.toList.length := by simpa using hp
  have hb := hb hp
  rw [List.drop_eq_getElem_cons hlen, emp] at h
  have e : (s.data.toList[p]).toNat = b.toNat := by
    have : s.data.toList[p] = s[p]'hp := rfl
    rw [this]
    omega
  have h0 : 0 ≤ b := by omega
  have q : ∀ n : Nat, n < 256 → (s.data.toList[p] = UInt8.ofNat n ↔ b = n) := fun n hn => by
    rw [← UInt8.toNat_inj, e, UInt8.toNat_ofNat_of_lt' (by omega)]
    omega
  have q10 : s.data.toList[p] = 10 ↔ b = 10 := q 10 (by omega)
  have q35 : s.data.toList[p] = 35 ↔ b = 35 := q 35 (by omega)
  have q32 : s.data.toList[p] = 32 ↔ b = 32 := q 32 (by omega)
  have q9 : s.data.toList[p] = 9 ↔ b = 9 := q 9 (by omega)
  split at h
  · rename_i h1
    exact .inl ⟨q10.1 h1, h⟩
  · rename_i h1
    split at h
    · rename_i h2
      exact .inr (.inl ⟨fun x => h1 (q10.2 x), q35.1 h2, h⟩)
    · rename_i h2
      split at h
      · cases h
      · rename_i h3
        refine .inr (.inr ⟨fun x => h1 (q10.2 x), fun x => h2 (q35.2 x), ?_, h⟩)
        cases r with
        | true => exact .inl rfl
        | false =>
          refine .inr ?_
          by_cases h4 : b = 32
          · exact .inl h4
          · by_cases h5 : b = 9
            · exact .inr h5
            · exact absurd (by rw [Bool.and_eq_true, Bool.and_eq_true, decide_eq_true_iff, decide_eq_true_iff]; exact ⟨⟨rfl, fun x => h4 (q32.1 x)⟩, fun x => h5 (q9.1 x)⟩) h3
set_option maxRecDepth 100000 in
set_option maxHeartbeats 1600000 in
theorem empty_calls (s : ByteArray) (w : World) (hs : s.size ≤ 20000) (he : emp false s.data.toList = true) : Calls Tryd.prog 18 #[.string s] w fun e w' => e = .returned (.bool true) ∧ Below w.heap.size w w' := by
  have HE := Lib.hid he
  have HB := Lib.hid (Below.refl w.heap.size w)
  clear he
  go_enter Tryd.func18, Tryd.ntmps18
  go_wp2
  go_loopg [3, 4] (s.size) (fun g x i wr => ∃ (k : Nat) (r : Bool), i = .int .i64 k ∧ k ≤ s.size ∧ g = s.size - k ∧ x = .bool r ∧ w = wr ∧ Hid (emp r (s.data.toList.drop k) = true))
  case atStart => exact ⟨0, false, rfl, Nat.zero_le _, rfl, rfl, rfl, Lib.hid (by simpa using HE.out)⟩
  case round =>
    obtain ⟨k, r, rfl, hk, rfl, rfl, rfl, hem⟩ := hrel
    by_cases hlt : k < s.size
    · obtain ⟨b, hbt⟩ : ∃ b : Int, ∀ h : k < s.size, ((s[k]'h).toNat : Int) = b := ⟨((s[k]'hlt).toNat : Int), fun _ => rfl⟩
      have hb0 : 0 ≤ b := by have := hbt hlt; omega
      have hb1 : b ≤ 255 := by have := hbt hlt; have := (s[k]'hlt).toNat_lt; omega
      rcases emp_step hlt hbt hem.out with ⟨h1, h2⟩ | ⟨h1, h2, h3⟩ | ⟨h1, h2, h3, h4⟩
      · have e1 : (b == 10) = true := by simp [h1]
        have HN := Lib.hid h2
        clear h1 h2 hem
        go_wp2
        go_roundg (s.size - (k + 1))
        case measure => omega
        case rel => exact ⟨k + 1, false, by go_num, by omega, rfl, rfl, rfl, HN⟩
      · have e1 : (b == 10) = false := by simp [h1]
        have e2 : (b == 35) = true := by simp [h2]
        have HN := Lib.hid h3
        clear h1 h2 h3 hem
        go_wp2
        go_roundg (s.size - (k + 1))
        case measure => omega
        case rel => exact ⟨k + 1, true, by go_num, by omega, rfl, rfl, rfl, HN⟩
      · have e1 : (b == 10) = false := by simp [h1]
        have e2 : (b == 35) = false := by simp [h2]
        have HN := Lib.hid h4
        clear h4 hem
        rcases h3 with h3 | h3
        · subst h3
          clear h1 h2
          go_wp2
          go_roundg (s.size - (k + 1))
          case measure => omega
          case rel => exact ⟨k + 1, true, by go_num, by omega, rfl, rfl, rfl, HN⟩
        · have e3 : (b != 32 && b != 9) = false := by rcases h3 with rfl | rfl <;> rfl
          cases r with
          | true =>
            clear h1 h2 h3
            go_wp2
            go_roundg (s.size - (k + 1))
            case measure => omega
            case rel => exact ⟨k + 1, true, by go_num, by omega, rfl, rfl, rfl, HN⟩
          | false =>
            by_cases h5 : b = 32
            · have e4 : (b != 32) = false := by simp [h5]
              clear h1 h2 h3 e3 h5
              go_wp2
              go_roundg (s.size - (k + 1))
              case measure => omega
              case rel => exact ⟨k + 1, false, by go_num, by omega, rfl, rfl, rfl, HN⟩
            · have e4 : (b != 32) = true := by simp [h5]
              have e5 : (b != 9) = false := by simp; omega
              clear h1 h2 h3 e3 h5
              go_wp2
              go_roundg (s.size - (k + 1))
              case measure => omega
              case rel => exact ⟨k + 1, false, by go_num, by omega, rfl, rfl, rfl, HN⟩
    · clear hem
      go_wp2
      go_ret
      exact ⟨rfl, HB.out⟩
theorem ext_take {s : ByteArray} {e n : Nat} (h : e ≤ n) : (s.extract e n).data.toList = (s.data.toList.drop e).take (n - e) := by
  simp [ByteArray.data_extract, Array.toList_extract, List.extract_eq_take_drop]
theorem read_bad {l : L} (h3 : resE (readR l) ≠ 0) : resL (readR l) = [] ∧ resA (readR l) ≤ l.length := by
  by_cases hbig : 8192 < l.length
  · rw [readR, if_pos hbig]
    exact ⟨rfl, Nat.zero_le _⟩
  · rw [readR, if_neg hbig] at h3 ⊢
    cases hr : rd l 0 0 with
    | ok ts => rw [hr] at h3; exact absurd rfl h3
    | error e =>
      obtain ⟨p, e⟩ := e
      obtain ⟨l', pre, h1, _⟩ := rd_fault l.length l 0 0 (Nat.le_refl _) (by omega) p e hr
      have := h1.at_le.2.1
      rw [Nat.sub_zero] at this
      exact ⟨rfl, this⟩
set_option maxRecDepth 100000 in
set_option maxHeartbeats 3200000 in
theorem places_calls (s : ByteArray) (w : World) (hT : Tbx w) : Calls Tryd.prog 5 #[.string s] w fun e w' => e = .returned (.bool true) ∧ Below w.heap.size w w' := by
  have HA := Lib.hid (awake_calls w hT)
  have HT := Lib.hid hT
  clear hT
  by_cases hbig : 20000 < s.size
  · go_enter Tryd.func5, Tryd.ntmps5
    go_wp2_with fail
    refine HA.out.mono ?_
    rintro e w1 ⟨rfl, hb1⟩
    have HA1 := Lib.hid (awake_calls w1 (HT.out.below hb1))
    go_wp2_with (go_at_call 9; refine HA1.out.mono ?_; rintro e w2 ⟨rfl, hb2⟩)
    go_ret
    exact ⟨rfl, below_step hb1 hb2⟩
  · obtain ⟨ts, h1⟩ : ∃ ts, resL (readR s.data.toList) = ts := ⟨_, rfl⟩
    obtain ⟨a, h2⟩ : ∃ a, resA (readR s.data.toList) = a := ⟨_, rfl⟩
    obtain ⟨er, h3⟩ : ∃ a, resE (readR s.data.toList) = a := ⟨_, rfl⟩
    have HP := Lib.hid (fun W (hW : Tbx W) => read_parts s ts a er W (by omega) hW h1 h2 h3)
    have hn : ts.length ≤ 2000 := by rw [← h1]; exact readR_len _
    have hl : s.data.toList.length = s.size := by simp
    have HL := Lib.hid hl
    clear hl
    go_enter Tryd.func5, Tryd.ntmps5
    go_wp2_with fail
    refine HA.out.mono ?_
    rintro e w1 ⟨rfl, hb1⟩
    have HB1 := Lib.hid hb1
    have HC := Lib.hid (HP.out w1 (HT.out.below hb1))
    clear hb1
    by_cases he : er = 0
    · subst he
      obtain ⟨_, hok⟩ := read_ok h3
      rw [h1] at hok
      obtain ⟨hpl, hwd⟩ := places_of hok
      have HPL := Lib.hid hpl
      have HWD := Lib.hid hwd
      clear h1 h2 h3 hok hpl hwd
      go_wp2_with fail
      refine HC.out.mono ?_
      rintro e w2 ⟨A, c, rfl, hC2, hb2⟩
      have HB2 := Lib.hid (below_step HB1.out hb2)
      have HC2 := Lib.hid hC2
      clear hb2 hC2
      go_wp2_with fail
      go_loopg [6, 7] (ts.length + 1) (fun g x i wr => ∃ (k e : Nat), i = .int .i64 k ∧ k ≤ ts.length + 1 ∧ g = ts.length + 1 - k ∧ x = .int .i64 e ∧ Hid (k ≤ ts.length → e = endAt 0 ts k) ∧ Hid (Below w.heap.size w wr) ∧ Hid (kT.C wr A ts.length ts))
      case atStart => exact ⟨0, 0, rfl, Nat.zero_le _, rfl, rfl, Lib.hid (fun _ => rfl), HB2, HC2⟩
      case round =>
        obtain ⟨k, e, rfl, hk, rfl, rfl, hke, hbr, hCr⟩ := hrel
        by_cases hle : k ≤ ts.length
        · have hpk := HPL.out k hle
          rw [← hke.out hle] at hpk
          obtain ⟨p1, p2, p3⟩ := hpk
          simp only [HL.out] at p1 p2 p3
          by_cases hlt : k < ts.length
          · obtain ⟨ad, hA, a0, a1, a2, a3⟩ := elT hCr.out hlt
            subst hA
            obtain ⟨t, ht⟩ : ∃ t, ts.getD k zT = t := ⟨_, rfl⟩
            have hz : ts.getD k z0 = t := ht
            have hmem : t ∈ ts := by
              rw [← ht, List.getD_eq_getElem?_getD, List.getElem?_eq_getElem hlt]
              exact List.getElem_mem hlt
            obtain ⟨q0, q1, q2, q3⟩ := HWD.out t hmem
            have hnx : nextAt s.size ts k = t.f3.toNat := by rw [nextAt, if_pos hlt, hz]
            have hes := endAt_succ ts 0 k hlt
            rw [hz] at hes
            rw [hnx] at p1 p2 p3
            rw [HL.out] at q2
            rw [ht] at a1 a3
            obtain ⟨n, hnn⟩ : ∃ n : Nat, t.f3 = n := ⟨t.f3.toNat, by omega⟩
            obtain ⟨x, hx⟩ : ∃ x, t.f1 = x := ⟨_, rfl⟩
            rw [hnn] at a3 hes p1 p2 p3 q2 q3
            rw [hx] at a1 hes q1 q2 q3
            rw [Int.toNat_natCast] at hes p1 p2 p3 q2 q3
            have hem : emp false (s.extract e n).data.toList = true := by rw [ext_take p1]; exact p3
            have hxx : s.extract n (n + x.size) = x := by
              apply ba_ext
              rw [ext_take (by omega), Nat.add_sub_cancel_left, q3]
            have hee : (x.toList == ([] : List UInt8)) = false := by
              rw [beq_eq_false_iff_ne]
              intro h
              rw [ByteArray.toList_eq] at h
              rw [ba_size, h] at q1
              simp at q1
            have HX := Lib.hid hxx
            have HES := Lib.hid hes
            obtain ⟨se, hse⟩ : ∃ se, se = s.extract e n := ⟨_, rfl⟩
            have hsz : se.size ≤ 20000 := by rw [hse]; simp; omega
            rw [← hse] at hem
            have HEM := Lib.hid (fun W => empty_calls se W hsz hem)
            rw [hse] at HEM
            clear a0 a2 ht hz hmem q0 q3 hnx hes p3 hnn hx hem hxx hsz hse
            go_wp2_with (go_at_call 18; refine (HEM.out _).mono ?_; rintro e w3 ⟨rfl, hb3⟩; have d1 := pw_cell_below hb3 a1; have d3 := pw_cell_below hb3 a3; have HB3 := Lib.hid (below_step hbr.out hb3); have HC3 := Lib.hid (Kd.C_below hCr.out hb3); clear hb3 a1 a3)
            have hcmp : ((s.extract n (n + x.size)).toList == x.toList) = true := by rw [HX.out]; simp
            have hg : decide ((s.size : Int) < (n : Int) + (x.size : Int)) = false := by rw [decide_eq_false_iff_not]; omega
            have hsl := fun wx => slice_pk s n x.size q2 wx
            go_quiet (fail)
            go_wp2
            go_roundg (ts.length + 1 - (k + 1))
            case measure => omega
            case rel => exact ⟨k + 1, n + x.size, by go_num, by omega, rfl, by go_num, Lib.hid (fun _ => HES.out.symm), Lib.hid (pw_below_drewN HB3.out _), Lib.hid (Kd.C_below HC3.out (pw_below_drewN (Below.refl _ _) _))⟩
          · have hnx : nextAt s.size ts k = s.size := by rw [nextAt, if_neg hlt]
            rw [hnx] at p1 p2 p3
            obtain ⟨se, hse⟩ : ∃ se, se = s.extract e s.size := ⟨_, rfl⟩
            have hem : emp false se.data.toList = true := by rw [hse, ext_take p1]; exact p3
            have hsz : se.size ≤ 20000 := by rw [hse]; simp; omega
            have HEM := Lib.hid (fun W => empty_calls se W hsz hem)
            rw [hse] at HEM
            clear p3 hnx hem hsz hse
            go_wp2_with (go_at_call 18; refine (HEM.out _).mono ?_; rintro e w3 ⟨rfl, hb3⟩; have HB3 := Lib.hid (below_step hbr.out hb3); have HC3 := Lib.hid (Kd.C_below hCr.out hb3); clear hb3)
            go_roundg (ts.length + 1 - (k + 1))
            case measure => omega
            case rel => exact ⟨k + 1, _, by go_num, by omega, rfl, rfl, Lib.hid (fun h => by omega), HB3, HC3⟩
        · go_wp2
          go_ret
          exact ⟨rfl, hbr.out⟩
    · have en : (er != 0) = true := by rw [bne_iff_ne]; exact he
      obtain ⟨b1, b2⟩ := read_bad (l := s.data.toList) (by rw [h3]; exact he)
      rw [h1] at b1
      rw [h2, HL.out] at b2
      subst b1
      clear h1 h2 h3 he
      go_wp2_with fail
      refine HC.out.mono ?_
      rintro e w2 ⟨A, c, rfl, _, hb2⟩
      go_wp2
      go_ret
      exact ⟨rfl, below_step HB1.out hb2⟩
end Go.Proofs.YtfammikhejjjcaaDoor.Lex
