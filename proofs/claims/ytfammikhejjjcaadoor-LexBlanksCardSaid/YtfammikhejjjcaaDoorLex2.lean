/- The keywords: lex.Words, lex.Keyword and the reference's. Conditions: what is laid. -/
import Derived.Test.YtfammikhejjjcaaDoorLex1
import Derived.Test.YtfammikhejjjcaaDoorLatSpec2
namespace Go.Proofs.YtfammikhejjjcaaDoor.Lex
set_option linter.unusedVariables false
set_option linter.unusedSimpArgs false
open Go Go.Lib Go.RowKit Go.Proofs.YtfammikhejjjcaaDoorW.PrintWords Go.Proofs.YtfammikhejjjcaaDoor.Aux Go.Proofs.YtfammikhejjjcaaDoor.LatSpec Go.Proofs.YtfammikhejjjcaaDoor.LexSpec
set_option maxHeartbeats 800000 in
theorem index_calls (xs : List ByteArray) (A : Option Addr) (c : Nat) (v : ByteArray) (w : World) (h : Kd.string.C w A xs.length xs) :
    Calls Tryd.prog 41 #[.slice A xs.length c, .string v] w fun e w' => e = .returned (.int .i64 (idxS xs v)) ∧ w = w' := by
  have H := Lib.hid h
  have hm := (C_len h).2
  clear h
  go_enter Tryd.func41, Tryd.ntmps41
  go_wp2_with fail
  go_loopg [8] (xs.length) (fun g i wr => ∃ k : Nat, i = .int .i64 k ∧ k ≤ xs.length ∧ g = xs.length - k ∧ w = wr ∧ Hid (∀ j, j < k → xs.getD j ByteArray.empty ≠ v))
  case atStart => exact ⟨0, rfl, Nat.zero_le _, rfl, rfl, Lib.hid (fun j hj => absurd hj (by omega))⟩
  case round =>
    obtain ⟨k, rfl, hk, rfl, rfl, hall⟩ := hrel
    by_cases hlt : k < xs.length
    · obtain ⟨ad, rfl, hc⟩ := C_str_get H.out hlt
      generalize hx : xs.getD k ByteArray.empty = x at *
      have HX := Lib.hid hx
      clear hx
      by_cases he : v = x
      · subst he
        have hs := str_eq v
        have hres := idxS_found hlt HX.out hall.out
        have HRES := Lib.hid hres
        clear hres
        go_wp2
        go_ret
        exact ⟨ret_int HRES.out.symm, rfl⟩
      · have hs := str_ne he
        have hno : ∀ j, j < k + 1 → xs.getD j ByteArray.empty ≠ v := fun j hj => by
          rcases Nat.lt_or_ge j k with h | h
          · exact hall.out j h
          · obtain rfl : j = k := by omega
            rw [HX.out]
            exact fun e => he e.symm
        have HNO := Lib.hid hno
        clear hno he
        go_wp2
        go_roundg (xs.length - (k + 1))
        case measure => omega
        case rel => exact ⟨k + 1, by go_num, by omega, rfl, rfl, HNO⟩
    · obtain rfl : k = xs.length := by omega
      have hres := idxS_none hall.out
      have HRES := Lib.hid hres
      clear hres
      go_wp2
      go_ret
      exact ⟨ret_int HRES.out.symm, rfl⟩
theorem contains_calls (xs : List ByteArray) (A : Option Addr) (c : Nat) (v : ByteArray) (w : World) (t : Bool) (h : Kd.string.C w A xs.length xs) (ht : t = true ↔ v ∈ xs) :
    Calls Tryd.prog 24 #[.slice A xs.length c, .string v] w fun e w' => e = .returned (.bool t) ∧ w = w' := by
  have H := Lib.hid h
  have hm : t = true ↔ 0 ≤ idxS xs v := by rw [ht, idxS_mem]
  clear h ht
  have hcall := index_calls xs A c v w H.out
  generalize idxS xs v = i at hm hcall
  have HC := Lib.hid hcall
  clear hcall
  cases t with
  | true =>
    have h0 : 0 ≤ i := by simpa using hm
    clear hm
    go_enter Tryd.func24, Tryd.ntmps24
    go_wp2_with (go_at_call 41; refine HC.out.mono ?_; rintro e wx ⟨rfl, rfl⟩)
    go_ret
    exact ⟨ret_bool (by simp), rfl⟩
  | false =>
    have h0 : i < 0 := by simpa using hm
    clear hm
    go_enter Tryd.func24, Tryd.ntmps24
    go_wp2_with (go_at_call 41; refine HC.out.mono ?_; rintro e wx ⟨rfl, rfl⟩)
    go_ret
    exact ⟨ret_bool (by simp; exact h0), rfl⟩
theorem strs_C {w : World} {b : Nat} {xs : List ByteArray} {e : TypeId} (hl : xs.length ≤ 9223372036854775807) (hb : w.heap[b]? = some (.cells (xs.map Value.string).toArray e (0, 0))) : Kd.string.C w (some ⟨b, 0, none⟩) xs.length xs := by
  refine ⟨rfl, hl, fun _ => ⟨_, rfl, fun j p hj => ?_⟩⟩
  refine ⟨[.string p], rfl, rfl, fun i u hu => ?_⟩
  match i, hu with
  | 0, hu =>
    obtain rfl := Option.some.inj hu
    have e1 : Kd.string.sz = 1 := rfl
    rw [Go.Proofs.YtfammikhejjjcaaDoorW.PrintWords.add_plain]
    refine (blk_cell hb _).trans ?_
    rw [e1, show j * 1 + 0 = j by omega]
    simpa using hj
theorem ba_ext {a b : ByteArray} (h : a.data.toList = b.data.toList) : a = b := ByteArray.ext (Array.ext' h)
theorem kws_len : kws.length = 23 := rfl
theorem fields_kw : Lib.fields [108, 97, 116, 116, 105, 99, 101, 32, 109, 97, 105, 110, 32, 108, 101, 116, 32, 105, 110, 32, 105, 102, 32, 116, 104, 101, 110, 32, 101, 108, 115, 101, 32, 102, 117, 110, 32, 101, 110, 100, 32, 114, 97, 105, 115, 101, 32, 116, 114, 121, 32, 119, 105, 116, 104, 32, 111, 117, 116, 32, 110, 101, 119, 32, 110, 111, 116, 32, 102, 115, 116, 32, 115, 110, 100, 32, 116, 114, 117, 101, 32, 102, 97, 108, 115, 101, 32, 105, 110, 116, 32, 98, 111, 111, 108, 32, 114, 101, 102, 32, 110, 111, 110, 101] = kws.map fun k => k.data.toList := by decide
theorem kw_ascii : ∀ b ∈ ([108, 97, 116, 116, 105, 99, 101, 32, 109, 97, 105, 110, 32, 108, 101, 116, 32, 105, 110, 32, 105, 102, 32, 116, 104, 101, 110, 32, 101, 108, 115, 101, 32, 102, 117, 110, 32, 101, 110, 100, 32, 114, 97, 105, 115, 101, 32, 116, 114, 121, 32, 119, 105, 116, 104, 32, 111, 117, 116, 32, 110, 101, 119, 32, 110, 111, 116, 32, 102, 115, 116, 32, 115, 110, 100, 32, 116, 114, 117, 101, 32, 102, 97, 108, 115, 101, 32, 105, 110, 116, 32, 98, 111, 111, 108, 32, 114, 101, 102, 32, 110, 111, 110, 101] : List UInt8), b.toNat < 128 := by decide
theorem isKw_iff (s : ByteArray) : isKw s.data.toList = true ↔ s ∈ kws := by
  rw [isKw, decide_eq_true_eq, List.mem_map]
  constructor
  · rintro ⟨k, hk, e⟩
    rwa [← ba_ext e]
  · exact fun h => ⟨s, h, rfl⟩
theorem words_calls (w : World) (hT : Tbx w) :
    Calls Tryd.prog 14 #[] w fun e w' => e = .returned (.slice (some ⟨w.heap.size, 0, none⟩) 23 23) ∧ Below w.heap.size w w' ∧ Kd.string.C w' (some ⟨w.heap.size, 0, none⟩) 23 kws := by
  have HC := Lib.hid (Tryd.strings_Fields ⟨#[108, 97, 116, 116, 105, 99, 101, 32, 109, 97, 105, 110, 32, 108, 101, 116, 32, 105, 110, 32, 105, 102, 32, 116, 104, 101, 110, 32, 101, 108, 115, 101, 32, 102, 117, 110, 32, 101, 110, 100, 32, 114, 97, 105, 115, 101, 32, 116, 114, 121, 32, 119, 105, 116, 104, 32, 111, 117, 116, 32, 110, 101, 119, 32, 110, 111, 116, 32, 102, 115, 116, 32, 115, 110, 100, 32, 116, 114, 117, 101, 32, 102, 97, 108, 115, 101, 32, 105, 110, 116, 32, 98, 111, 111, 108, 32, 114, 101, 102, 32, 110, 111, 110, 101]⟩ w (by decide) (fun j b h => kw_ascii b (List.mem_of_getElem? h)) (hT w (Below.refl _ _)).2.1)
  rw [show (⟨#[108, 97, 116, 116, 105, 99, 101, 32, 109, 97, 105, 110, 32, 108, 101, 116, 32, 105, 110, 32, 105, 102, 32, 116, 104, 101, 110, 32, 101, 108, 115, 101, 32, 102, 117, 110, 32, 101, 110, 100, 32, 114, 97, 105, 115, 101, 32, 116, 114, 121, 32, 119, 105, 116, 104, 32, 111, 117, 116, 32, 110, 101, 119, 32, 110, 111, 116, 32, 102, 115, 116, 32, 115, 110, 100, 32, 116, 114, 117, 101, 32, 102, 97, 108, 115, 101, 32, 105, 110, 116, 32, 98, 111, 111, 108, 32, 114, 101, 102, 32, 110, 111, 110, 101]⟩ : ByteArray).data.toList = [108, 97, 116, 116, 105, 99, 101, 32, 109, 97, 105, 110, 32, 108, 101, 116, 32, 105, 110, 32, 105, 102, 32, 116, 104, 101, 110, 32, 101, 108, 115, 101, 32, 102, 117, 110, 32, 101, 110, 100, 32, 114, 97, 105, 115, 101, 32, 116, 114, 121, 32, 119, 105, 116, 104, 32, 111, 117, 116, 32, 110, 101, 119, 32, 110, 111, 116, 32, 102, 115, 116, 32, 115, 110, 100, 32, 116, 114, 117, 101, 32, 102, 97, 108, 115, 101, 32, 105, 110, 116, 32, 98, 111, 111, 108, 32, 114, 101, 102, 32, 110, 111, 110, 101] from rfl, fields_kw] at HC
  clear hT
  go_enter Tryd.func14, Tryd.ntmps14
  go_wp2_with fail
  refine HC.out.mono ?_
  rintro e w1 ⟨rfl, rfl⟩
  go_wp2
  go_ret
  refine ⟨rfl, below_alloc (Below.refl _ _) _, ?_⟩
  exact strs_C (e := 9) (xs := kws) (by decide) ((blk_new w _).trans rfl)
set_option maxHeartbeats 800000 in
theorem keyword_calls (s : ByteArray) (t : Bool) (w : World) (hT : Tbx w) (ht : isKw s.data.toList = t) :
    Calls Tryd.prog 16 #[.string s] w fun e w' => e = .returned (.bool t) ∧ Below w.heap.size w w' := by
  have HC := Lib.hid (words_calls w hT)
  have HK := Lib.hid (show t = true ↔ s ∈ kws by rw [← ht, isKw_iff])
  clear hT ht
  go_enter Tryd.func16, Tryd.ntmps16
  go_wp2_with fail
  refine HC.out.mono ?_
  rintro e w1 ⟨rfl, hb, hc⟩
  have HCON := Lib.hid (contains_calls kws _ 23 s w1 t hc HK.out)
  have HB := Lib.hid hb
  clear hc hb
  go_wp2_with fail
  refine HCON.out.mono ?_
  rintro e w2 ⟨rfl, rfl⟩
  go_wp2
  go_ret
  exact ⟨rfl, HB.out⟩
theorem refwords_calls (w : World) :
    Calls Tryd.prog 15 #[] w fun e w' => e = .returned (.slice (some ⟨w.heap.size, 0, none⟩) 23 23) ∧ Below w.heap.size w w' ∧ Kd.string.C w' (some ⟨w.heap.size, 0, none⟩) 23 kws := by
  go_enter Tryd.func15, Tryd.ntmps15
  go_wp2
  go_ret
  exact ⟨rfl, below_alloc (Below.refl _ _) _, strs_C (xs := kws) (by decide) (blk_new w _)⟩
set_option maxHeartbeats 800000 in
theorem refkeyword_calls (s : ByteArray) (t : Bool) (w : World) (ht : isKw s.data.toList = t) :
    Calls Tryd.prog 17 #[.string s] w fun e w' => e = .returned (.bool t) ∧ Below w.heap.size w w' := by
  have HC := Lib.hid (refwords_calls w)
  have HK := Lib.hid (show t = true ↔ s ∈ kws by rw [← ht, isKw_iff])
  clear ht
  go_enter Tryd.func17, Tryd.ntmps17
  go_wp2_with fail
  refine HC.out.mono ?_
  rintro e w1 ⟨rfl, hb, hc⟩
  have HCC := Lib.hid hc
  have HB := Lib.hid hb
  clear hc hb
  go_wp2_with fail
  go_loopg [4] (23) (fun g i wr => ∃ k : Nat, i = .int .i64 k ∧ k ≤ 23 ∧ g = 23 - k ∧ w1 = wr ∧ Hid (∀ j, j < k → kws.getD j ByteArray.empty ≠ s))
  case atStart => exact ⟨0, rfl, Nat.zero_le _, rfl, rfl, Lib.hid (fun j hj => absurd hj (by omega))⟩
  case round =>
    obtain ⟨k, rfl, hk, rfl, rfl, hall⟩ := hrel
    by_cases hlt : k < 23
    · obtain ⟨ad, hA, hc⟩ := C_str_get HCC.out hlt
      obtain rfl := Option.some.inj hA
      obtain ⟨x, hx⟩ : ∃ x, kws.getD k ByteArray.empty = x := ⟨_, rfl⟩
      rw [Go.Proofs.YtfammikhejjjcaaDoorW.PrintWords.add_plain, hx] at hc
      have HX := Lib.hid hx
      clear hx
      by_cases he : x = s
      · subst he
        have hs := str_eq x
        have HRES := Lib.hid (show t = true by
          rw [HK.out, ← HX.out, List.getD_eq_getElem?_getD, List.getElem?_eq_getElem (by rw [kws_len]; exact hlt)]
          exact List.getElem_mem _)
        go_wp2
        go_ret
        exact ⟨ret_bool HRES.out.symm, HB.out⟩
      · have hs := str_ne he
        have HNO := Lib.hid (show ∀ j, j < k + 1 → kws.getD j ByteArray.empty ≠ s from fun j hj => by
          rcases Nat.lt_or_ge j k with h | h
          · exact hall.out j h
          · obtain rfl : j = k := by omega
            rw [HX.out]
            exact he)
        clear he
        go_wp2
        go_roundg (23 - (k + 1))
        case measure => omega
        case rel => exact ⟨k + 1, by go_num, by omega, rfl, rfl, HNO⟩
    · obtain rfl : k = 23 := by omega
      have HRES := Lib.hid (show t = false by
        rw [← Bool.not_eq_true, HK.out]
        intro hm
        obtain ⟨j, hj, e⟩ := List.getElem_of_mem hm
        refine hall.out j (by rw [kws_len] at hj; exact hj) ?_
        rw [List.getD_eq_getElem?_getD, List.getElem?_eq_getElem hj]
        exact e)
      go_wp2
      go_ret
      exact ⟨ret_bool HRES.out.symm, HB.out⟩
end Go.Proofs.YtfammikhejjjcaaDoor.Lex
