/- text and Text of the program's package value, at every value of at most 2000 nodes. Condition: the table of strconv's powers of ten is laid. -/
import Derived.Test.YtcikgloiojglpaaDoorVal4
import Derived.Test.YtcikgloiojglpaaDoorShelf
import Derived.Maps.AppendAt
import Derived.Lib.AppendIntMem
import Derived.Lib.SmallJoins
namespace Go.Proofs.YtcikgloiojglpaaDoor.Val
set_option linter.unusedVariables false
set_option linter.unusedSimpArgs false
open Go.RowKit Go.Proofs.YtcikgloiojglpaaDoorW.PrintWords Go.Proofs.YtcikgloiojglpaaDoor.Aux Go.Proofs.YtcikgloiojglpaaDoor.Kinds Go.Proofs.YtcikgloiojglpaaDoor.ValSpec
/-- The powers of ten are laid, now and in all that comes. -/
def Tbi (w : World) : Prop := ∀ W, Below w.heap.size w W → Lib.TabIs Tryd.prog W "internal/strconv.uint64pow10" .u64 Lib.pow10Tab
theorem Tbi.below {w w1 : World} (h : Tbi w) (hb : Below w.heap.size w w1) : Tbi w1 := fun W hW => h W (below_step hb hW)
/-- A text as bytes. -/
def bs (l : List UInt8) : ByteArray := ⟨l.toArray⟩
theorem bs_list (l : List UInt8) : (bs l).data.toList = l := by simp [bs]
theorem bs_size (l : List UInt8) : (bs l).size = l.length := by simp [bs, ByteArray.size]
theorem bs_append (a b : List UInt8) : bs a ++ bs b = bs (a ++ b) := by
  apply ByteArray.ext
  simp [bs]
theorem ret_str {a b : ByteArray} (h : a = b) : Ending.returned (.string a) = .returned (.string b) := by rw [h]
def tb (v : V) : ByteArray := bs (text v)
theorem infoStr : (Tryd.prog.info? 9).map (fun i => (i.zero, i.size, i.bytes)) = some (some (.string ByteArray.empty), 1, 16) := by kernel_rfl
/-! ### how long texts are -/
theorem nDigits_le : ∀ (k u : Nat), 1 ≤ k → u < 10 ^ k → Lib.nDigits u ≤ k
  | 0, _, h, _ => by omega
  | 1, u, _, h => by rw [Lib.nDigits_small (by omega)]; omega
  | k + 2, u, _, h => by
    by_cases hu : u < 10
    · rw [Lib.nDigits_small hu]; omega
    · rw [Lib.nDigits_big hu]
      have := nDigits_le (k + 1) (u / 10) (by omega) (by rw [Nat.pow_succ] at h; omega)
      omega
theorem itoa_len {n : Int} (h0 : -9223372036854775808 ≤ n) (h1 : n ≤ 9223372036854775807) : 1 ≤ (Lib.itoa n).length ∧ (Lib.itoa n).length ≤ 20 := by
  unfold Lib.itoa
  split
  · rw [List.length_cons, Lib.decDigits_length]
    have := nDigits_le 19 n.natAbs (by omega) (by omega)
    omega
  · rw [Lib.decDigits_length]
    have := nDigits_le 19 n.toNat (by omega) (by omega)
    have := Lib.nDigits_pos n.toNat
    omega
def lens (xs : List (List UInt8)) : Nat := (xs.map fun x => x.length + 2).sum
theorem join_len (xs : List (List UInt8)) : (joinT xs).length ≤ lens xs := by
  induction xs with
  | nil => simp [joinT, Lib.join_nil]
  | cons x xs ih =>
    cases xs with
    | nil => simp [joinT, Lib.join_one, lens]
    | cons y ys =>
      have e : joinT (x :: y :: ys) = x ++ ([44, 32] ++ joinT (y :: ys)) := by
        simp only [joinT, Lib.join_cons, Lib.joinTail, List.map_cons, List.flatten_cons, List.append_assoc]
      rw [e]
      simp only [lens, List.map_cons, List.sum_cons, List.length_append, List.length_cons, List.length_nil] at ih ⊢
      omega
theorem textOf_len {k n : Int} {parts : List (List UInt8)} (h0 : -9223372036854775808 ≤ n) (h1 : n ≤ 9223372036854775807) : 1 ≤ (textOf k n parts).length ∧ (textOf k n parts).length ≤ 30 + lens parts := by
  have hi := itoa_len h0 h1
  have hj := join_len parts
  unfold textOf
  repeat' split
  all_goals (try simp only [tTrue, tFalse, tFun, tRef, List.length_append, List.length_cons, List.length_nil])
  all_goals omega
mutual
theorem text_len : ∀ (v : V), good v → 1 ≤ (text v).length ∧ (text v).length + 2 ≤ 50 * size v
  | ⟨k, n, ps⟩, h => by
    rw [good] at h
    have h2 := texts_len ps h.2
    have h3 := textOf_len (k := k) (parts := texts ps) h.1.1 h.1.2
    rw [text, size]
    omega
theorem texts_len : ∀ (ps : List V), goods ps → lens (texts ps) ≤ 50 * sizes ps
  | [], _ => by simp [texts, lens, sizes]
  | p :: ps, h => by
    rw [goods] at h
    have h1 := text_len p h.1
    have h2 := texts_len ps h.2
    rw [texts, sizes]
    simp only [lens, List.map_cons, List.sum_cons] at h2 ⊢
    omega
end
theorem parts_len {ps : List V} (h : goods ps) (hs : sizes ps ≤ 2000) : (joinT (ps.map text)).length ≤ 100000 := by
  have h1 := texts_len ps h
  have h2 := join_len (texts ps)
  rw [texts_map] at h1 h2
  omega
/-! ### what the library does -/
theorem fmt_calls (n : Int) (w : World) (h0 : -9223372036854775808 ≤ n) (h1 : n ≤ 9223372036854775807) (hT : Tbi w) :
    Calls Tryd.prog 21 #[.int .i64 n, .int .i64 10] w fun e w' => e = .returned (.string (bs (Lib.itoa n))) ∧ Below w.heap.size w w' := by
  refine (Tryd.strconv_FormatInt_10 n h0 h1 w (hT w (Below.refl _ _))).mono ?_
  rintro e w' ⟨he, k, os, rfl⟩
  exact ⟨he, Lib.below_grow _ w (Nat.le_refl _) k os⟩
theorem fbool_calls (b : Bool) (w : World) : Calls Tryd.prog 22 #[.bool b] w fun e w' => e = .returned (.string (bs (if b then tTrue else tFalse))) ∧ w = w' := by
  refine (Tryd.strconv_FormatBool b w).mono ?_
  rintro e w' ⟨he, hw⟩
  refine ⟨?_, hw.symm⟩
  rw [he]
  cases b <;> exact congrArg (fun l : List UInt8 => Ending.returned (.string ⟨l.toArray⟩)) (by decide +kernel)
theorem join_calls (xs : List (List UInt8)) (v : Value) (w : World) (base : Nat) (hR : Kd.string.R 9 w base (fun _ => True) v (xs.map bs)) (hlen : (joinT xs).length ≤ 140737488355328) (hn : xs.length ≤ 140737488355328) :
    Calls Tryd.prog 20 #[v, .string ⟨#[44, 32]⟩] w fun e w' => e = .returned (.string (bs (joinT xs))) ∧ Below w.heap.size w w' := by
  have hm : (xs.map bs).map (·.data.toList) = xs := by
    rw [List.map_map]
    have : ((fun x : ByteArray => x.data.toList) ∘ bs) = id := by funext l; simp [bs_list]
    rw [this, List.map_id]
  obtain ⟨h1, h2⟩ := Kd.own_of_R hR
  rcases h2 with ⟨rfl, h0⟩ | ⟨q, cap, cur, rfl, hq, hh, hn2, hm2, hs, ht⟩
  · have hx : xs = [] := by
      rw [List.length_map] at h0
      exact List.eq_nil_of_length_eq_zero h0
    subst hx
    refine (Tryd.strings_Join_none none 0 ⟨#[44, 32]⟩ w).mono ?_
    rintro e w' ⟨he, rfl⟩
    exact ⟨by rw [he]; rfl, Below.refl _ _⟩
  · refine (Tryd.strings_Join q 0 cap (xs.map bs) ⟨#[44, 32]⟩ w (fun j x hj => ?_) (blk_lt hh) (by rw [List.length_map]; exact hn) hn2 (by rw [hm]; exact hlen)).mono ?_
    · rw [Nat.zero_add, blk_cell hh j]
      have hjl : j < (xs.map bs).length := by
        rcases Nat.lt_or_ge j (xs.map bs).length with h | h
        · exact h
        · rw [List.getElem?_eq_none h] at hj; cases hj
      rw [Nat.mul_one] at ht
      have : cur.toList[j]? = some (.string x) := by
        have e1 : (cur.toList.take (xs.map bs).length)[j]? = cur.toList[j]? := List.getElem?_take_of_lt hjl
        rw [← e1, ht]
        simp only [encs, List.getElem?_map, hj, Option.map_some]
      simpa using this
    · rintro e w' ⟨he, hb⟩
      rw [hm] at he
      exact ⟨he, hb⟩
theorem w_pair (l : List UInt8) : (⟨#[40]⟩ : ByteArray) ++ bs l ++ ⟨#[41]⟩ = bs (40 :: (l ++ [41])) := by
  rw [show (⟨#[40]⟩ : ByteArray) = bs [40] from rfl, show (⟨#[41]⟩ : ByteArray) = bs [41] from rfl, bs_append, bs_append]
  rfl
theorem w_fun (l : List UInt8) : (⟨#[102, 117, 110, 32]⟩ : ByteArray) ++ bs l = bs (tFun ++ l) := by
  rw [show (⟨#[102, 117, 110, 32]⟩ : ByteArray) = bs tFun from rfl, bs_append]
theorem w_ref (l : List UInt8) : (⟨#[114, 101, 102, 32]⟩ : ByteArray) ++ bs l = bs (tRef ++ l) := by
  rw [show (⟨#[114, 101, 102, 32]⟩ : ByteArray) = bs tRef from rfl, bs_append]
theorem w_funs (l m : List UInt8) : (⟨#[102, 117, 110, 32]⟩ : ByteArray) ++ bs l ++ ⟨#[32, 91]⟩ ++ bs m ++ ⟨#[93]⟩ = bs (tFun ++ (l ++ (32 :: 91 :: (m ++ [93])))) := by
  rw [show (⟨#[102, 117, 110, 32]⟩ : ByteArray) = bs tFun from rfl, show (⟨#[32, 91]⟩ : ByteArray) = bs [32, 91] from rfl, show (⟨#[93]⟩ : ByteArray) = bs [93] from rfl, bs_append, bs_append, bs_append, bs_append]
  simp
theorem len_sizes (xs : List V) : xs.length ≤ sizes xs := by
  induction xs with
  | nil => simp
  | cons x xs ih => have := size_pos x; simp only [List.length_cons, sizes]; omega
/-- What is known of a part's text. -/
def Txt (f : Nat) (ps : List V) : Prop := ∀ p, p ∈ ps → ∀ A c W, VR W p A c → Tbi W → Calls Tryd.prog f #[.agg #[.int .i64 p.f0, .int .i64 p.f1, .slice A p.f2.length c]] W fun e w' => e = .returned (.string (tb p)) ∧ Below W.heap.size W w'
set_option maxRecDepth 100000 in
set_option maxHeartbeats 3200000 in
theorem text_core (kk nn : Int) (ps : List V) (A : Option Addr) (c : Nat) (w : World) (hr0 : -9223372036854775808 ≤ nn) (hr1 : nn ≤ 9223372036854775807) (hg : goods ps) (hsz : sizes ps ≤ 2000) (hln : ps.length ≤ 2000) (h : ps.length ≤ c) (hC : kV.C w A ps.length ps) (hT : Tbi w) (hI : Txt 15 ps) :
    Calls Tryd.prog 15 #[.agg #[.int .i64 kk, .int .i64 nn, .slice A ps.length c]] w fun e w' => e = .returned (.string (bs (textOf kk nn (ps.map text)))) ∧ Below w.heap.size w w' := by
  have hb1 := below_alloc (Below.refl w.heap.size w) (.cells #[.int .i64 kk, .int .i64 nn, .slice A ps.length c] 24)
  have hF : ∀ W, Below (w.alloc (.cells #[.int .i64 kk, .int .i64 nn, .slice A ps.length c] 24)).heap.size (w.alloc (.cells #[.int .i64 kk, .int .i64 nn, .slice A ps.length c] 24)) W → W.cell? ⟨w.heap.size, 0, none⟩ = some (.int .i64 kk) ∧ W.cell? ⟨w.heap.size, 1, none⟩ = some (.int .i64 nn) ∧ W.cell? ⟨w.heap.size, 2, none⟩ = some (.slice A ps.length c) ∧ kV.C W A ps.length ps ∧ Below w.heap.size w W ∧ Tbi W := fun W hW => by
    have bk := blk_below (blk_new w _) hW
    exact ⟨(blk_cell bk 0).trans rfl, (blk_cell bk 1).trans rfl, (blk_cell bk 2).trans rfl, Kd.C_below hC (below_step hb1 hW), below_step hb1 hW, hT.below (below_step hb1 hW)⟩
  obtain ⟨c0, c1, c2, _, _⟩ := hF _ (Below.refl _ _)
  have HB0 := Lib.hid (Below.refl (w.alloc (.cells #[.int .i64 kk, .int .i64 nn, .slice A ps.length c] 24)).heap.size (w.alloc (.cells #[.int .i64 kk, .int .i64 nn, .slice A ps.length c] 24)))
  have HF := Lib.hid hF
  have HI := Lib.hid hI
  have HJL := Lib.hid (parts_len hg hsz)
  have HR0 := Lib.hid hr0
  have HR1 := Lib.hid hr1
  have HPL : Hid (ps.map text = [] ↔ ps.length = 0) := Lib.hid (by rw [List.map_eq_nil_iff, List.length_eq_zero_iff])
  have HS0 : Hid (Kd.string.R 9 (w.alloc (.cells #[.int .i64 kk, .int .i64 nn, .slice A ps.length c] 24)) (w.heap.size + 1) (fun _ => True) (.slice none 0 0) (((ps.take 0).map text).map bs)) := Lib.hid (Kd.R_nil _ _ _ _ _)
  have hm := (C_len hC).2
  clear hb1 hC hI h hF hg hsz hT hr0 hr1
  go_enter Tryd.func15, Tryd.ntmps15
  go_wp2_with fail
  clear c0 c1 c2
  go_loopg [3, 11] (ps.length) (fun g v i wx => ∃ j : Nat, i = .int .i64 j ∧ j ≤ ps.length ∧ g = ps.length - j ∧ Hid (Below (w.alloc (.cells #[.int .i64 kk, .int .i64 nn, .slice A ps.length c] 24)).heap.size (w.alloc (.cells #[.int .i64 kk, .int .i64 nn, .slice A ps.length c] 24)) wx) ∧ Hid (Kd.string.R 9 wx (w.heap.size + 1) (fun _ => True) v (((ps.take j).map text).map bs)))
  case atStart => exact ⟨0, rfl, Nat.zero_le _, rfl, HB0, HS0⟩
  case round =>
    obtain ⟨j, rfl, hj, rfl, hbr, hR⟩ := hrel
    obtain ⟨c0, c1, c2, hp, hbw, htb⟩ := HF.out _ hbr.out
    have HBW := Lib.hid hbw
    have HTB := Lib.hid htb
    obtain ⟨A1, cc, rfl⟩ := Kd.R_slice hR.out
    by_cases hlt : j < ps.length
    · obtain ⟨ad, A', c', hA, e0, e1, e2, hq⟩ := el hp hlt
      subst hA
      obtain ⟨p, hpp⟩ : ∃ p, p = ps.getD j zV := ⟨_, rfl⟩
      have hmem : p ∈ ps := by rw [hpp]; exact getD_mem hlt
      rw [← hpp] at e0 e1 e2 hq
      have hb1 := below_alloc (Below.refl wr.heap.size wr) (.cells #[.int .i64 p.f0, .int .i64 p.f1, .slice A' p.f2.length c'] 24)
      have HCALL := Lib.hid (HI.out p hmem A' c' _ (hq.below hb1) (htb.below hb1))
      have HB1 := Lib.hid hb1
      have HSN := Lib.hid (show ((ps.take (j + 1)).map text).map bs = ((ps.take j).map text).map bs ++ [tb p] by rw [take_snoc hlt, ← hpp, List.map_append, List.map_append]; rfl)
      have hlen : (((ps.take j).map text).map bs).length ≤ j := by simp; omega
      clear hb1 hq hp hbw htb hmem hpp
      go_wp2_with fail
      refine HCALL.out.mono ?_
      rintro e w1 ⟨rfl, hb2⟩
      have hbb := below_step hbr.out (below_step HB1.out hb2)
      have HB3 := Lib.hid hbb
      have HRW := Lib.hid (Kd.R_below hR.out (below_step HB1.out hb2))
      rw [alloc_size] at hbb
      have HBB := Lib.hid hbb
      have hsz1 := hbb.size
      rw [alloc_size] at hsz1
      generalize (((ps.take j).map text).map bs) = xs at *
      generalize tb p = tp at *
      clear hbb hb2 c0 c1 c2 e0 e1 e2
      go_wp2_with (at_builtin; (refine Kd.R_append Kd.string (w0 := w.alloc (.cells #[.int .i64 kk, .int .i64 nn, .slice (some ad) ps.length c] 24)) (w.heap.size + 1) rfl (.tmp 15) (.tmp 18) 35 9 (.string ByteArray.empty) 16 rfl Tryd.underlying35 infoStr rfl (by decide) (by omega) (.slice A1 xs.length cc) xs tp [.string tp] (fun _ => True) (fun _ => False) rfl rfl rfl (fun _ hf => hf.elim) (fun _ _ => trivial) HRW.out HBB.out (by omega) (by omega) ?_); intro v1 w2 hR2 hb3 hgg hat; rw [← HSN.out] at hR2; have HR2 := Lib.hid hR2; have HB4 := Lib.hid hb3; clear hR2 hb3 hgg hat)
      have hb5 := HB4.out
      rw [show w.heap.size + 1 = (w.alloc (.cells #[.int .i64 kk, .int .i64 nn, .slice (some ad) ps.length c] 24)).heap.size from (alloc_size w _).symm] at hb5
      have HB5 := Lib.hid hb5
      clear hb5
      go_roundg (ps.length - (j + 1))
      case measure => omega
      case rel => exact ⟨j + 1, by go_num, by omega, rfl, HB5, HR2⟩
    · obtain rfl : j = ps.length := by omega
      have hR' := hR.out
      rw [List.take_length] at hR'
      have HJ := Lib.hid (join_calls (ps.map text) _ wr _ hR' (by have := HJL.out; omega) (by simp; omega))
      have e9 : (((ps.take ps.length).map text).map bs).length = ps.length := by simp
      have e8 : ((ps.map text).map bs).length = ps.length := by simp
      rw [e8] at HJ
      rw [e9]
      clear e8 e9
      clear hR' hp hbw htb c0 c1 c2
      go_wp2_with fail
      refine HJ.out.mono ?_
      rintro e w1 ⟨rfl, hb1⟩
      have hb2 := below_step hbr.out hb1
      obtain ⟨c0, c1, c2, _, _, htb⟩ := HF.out _ hb2
      have HFM := Lib.hid (fmt_calls nn w1 HR0.out HR1.out htb)
      have HB2 := Lib.hid hb2
      clear hb1 hb2 htb
      go_wp2_with fail
      refine HFM.out.mono ?_
      rintro e w2 ⟨rfl, hb3⟩
      obtain ⟨c0, c1, c2, _, hbw, _⟩ := HF.out _ (below_step HB2.out hb3)
      have HB3 := Lib.hid hbw
      clear hbw hb3
      by_cases k2 : kk = 2
      · subst k2
        by_cases hn : nn = 1
        · have e1 : (nn == 1) = true := by rw [beq_iff_eq]; exact hn
          have HRES := Lib.hid (show textOf 2 nn (ps.map text) = tTrue by simp [textOf, hn])
          clear hn
          go_wp2_with (go_at_call 22; refine (fbool_calls _ _).mono ?_; rintro e w3 ⟨rfl, rfl⟩)
          go_ret
          exact ⟨ret_str (by rw [HRES.out]; try rfl), HB3.out⟩
        · have e1 : (nn == 1) = false := by rw [beq_eq_false_iff_ne]; exact hn
          have HRES := Lib.hid (show textOf 2 nn (ps.map text) = tFalse by simp [textOf, hn])
          clear hn
          go_wp2_with (go_at_call 22; refine (fbool_calls _ _).mono ?_; rintro e w3 ⟨rfl, rfl⟩)
          go_ret
          exact ⟨ret_str (by rw [HRES.out]; try rfl), HB3.out⟩
      have q2 : (kk == 2) = false := by rw [beq_eq_false_iff_ne]; exact k2
      have z1 : (bs (joinT (ps.map text))).size ≤ 100000 := by rw [bs_size]; exact HJL.out
      have z2 : (bs (Lib.itoa nn)).size ≤ 20 := by rw [bs_size]; exact (itoa_len HR0.out HR1.out).2
      obtain ⟨sa, hsa⟩ : ∃ s, s = bs (joinT (ps.map text)) := ⟨_, rfl⟩
      obtain ⟨sn, hsn⟩ : ∃ s, s = bs (Lib.itoa nn) := ⟨_, rfl⟩
      rw [← hsa, ← hsn]
      rw [← hsa] at z1
      rw [← hsn] at z2
      have HSA := Lib.hid hsa
      have HSN := Lib.hid hsn
      clear hsa hsn
      by_cases k3 : kk = 3
      · subst k3
        have HRES := Lib.hid (show textOf 3 nn (ps.map text) = 40 :: (joinT (ps.map text) ++ [41]) by simp [textOf])
        clear k2
        go_wp2
        go_ret
        exact ⟨ret_str (by rw [HRES.out, HSA.out]; exact w_pair _), HB3.out⟩
      have q3 : (kk == 3) = false := by rw [beq_eq_false_iff_ne]; exact k3
      by_cases k4 : kk = 4
      · subst k4
        by_cases hl : ps.length = 0
        · have HRES := Lib.hid (show textOf 4 nn (ps.map text) = tFun ++ Lib.itoa nn by rw [textOf, if_neg (by omega), if_neg (by omega), if_pos rfl, if_pos (HPL.out.2 hl)])
          have hl2 : ps.length ≤ 0 := by omega
          clear k2 k3 hl
          go_wp2
          go_ret
          exact ⟨ret_str (by rw [HRES.out, HSN.out]; exact w_fun _), HB3.out⟩
        · have HRES := Lib.hid (show textOf 4 nn (ps.map text) = tFun ++ (Lib.itoa nn ++ (32 :: 91 :: (joinT (ps.map text) ++ [93]))) by rw [textOf, if_neg (by omega), if_neg (by omega), if_pos rfl, if_neg (fun h => hl (HPL.out.1 h))])
          have hl2 : 0 < ps.length := by omega
          clear k2 k3 hl
          go_wp2
          go_ret
          exact ⟨ret_str (by rw [HRES.out, HSN.out, HSA.out]; exact w_funs _ _), HB3.out⟩
      have q4 : (kk == 4) = false := by rw [beq_eq_false_iff_ne]; exact k4
      by_cases k5 : kk = 5
      · subst k5
        have HRES := Lib.hid (show textOf 5 nn (ps.map text) = tRef ++ Lib.itoa nn by simp [textOf])
        clear k2 k3 k4
        go_wp2
        go_ret
        exact ⟨ret_str (by rw [HRES.out, HSN.out]; exact w_ref _), HB3.out⟩
      have q5 : (kk == 5) = false := by rw [beq_eq_false_iff_ne]; exact k5
      have HRES := Lib.hid (show textOf kk nn (ps.map text) = Lib.itoa nn by simp [textOf, k2, k3, k4, k5])
      clear k2 k3 k4 k5
      go_wp2
      go_ret
      exact ⟨ret_str (by rw [HRES.out, HSN.out]), HB3.out⟩
theorem text_k : ∀ (k : Nat) (v : V) (A : Option Addr) (c : Nat) (w : World), size v ≤ k → size v ≤ 2000 → good v → VR w v A c → Tbi w →
    Calls Tryd.prog 15 #[.agg #[.int .i64 v.f0, .int .i64 v.f1, .slice A v.f2.length c]] w fun e w' => e = .returned (.string (tb v)) ∧ Below w.heap.size w w' := by
  intro k
  induction k with
  | zero => intro v A c w hk; have := size_pos v; omega
  | succ k ih =>
    intro v A c w hk hz hg h hT
    have hg2 := hg
    rw [good_eq] at hg2
    have hs := size_eq v
    rw [tb, text_eq]
    exact text_core v.f0 v.f1 v.f2 A c w hg2.1.1 hg2.1.2 hg2.2 (by omega) (by have := len_sizes v.f2; omega) h.1 h.2 hT (fun p hp A c W hV hTW => ih p A c W (by have := size_part hp; omega) (by have := size_part hp; omega) (good_part hg hp) hV hTW)
theorem text_calls (v : V) (A : Option Addr) (c : Nat) (w : World) (hz : size v ≤ 2000) (hg : good v) (h : VR w v A c) (hT : Tbi w) :
    Calls Tryd.prog 15 #[.agg #[.int .i64 v.f0, .int .i64 v.f1, .slice A v.f2.length c]] w fun e w' => e = .returned (.string (tb v)) ∧ Below w.heap.size w w' := text_k (size v) v A c w (Nat.le_refl _) hz hg h hT
/-- What Text answers. -/
def TextPost (v : V) (w : World) (e : Ending) (w' : World) : Prop :=
  ((formedV v = true ∧ e = .returned (.tuple #[.string (tb v), .int .i64 0])) ∨ (formedV v = false ∧ e = .returned (.tuple #[.string ⟨#[]⟩, .int .i64 9]))) ∧ Below w.heap.size w w'
theorem Text_calls (v : V) (A : Option Addr) (c : Nat) (w : World) (hg : good v) (h : VR w v A c) (hT : Tbi w) :
    Calls Tryd.prog 7 #[.agg #[.int .i64 v.f0, .int .i64 v.f1, .slice A v.f2.length c]] w fun e w' => TextPost v w e w' := by
  have hF := boxV h
  obtain ⟨c0, c1, c2, hp, hbw⟩ := hF _ (Below.refl _ _)
  have HFC := Lib.hid (formed_calls v A c _ hg hp)
  have HF := Lib.hid hF
  have HG := Lib.hid hg
  have HTT := Lib.hid hT
  obtain ⟨f, hf⟩ : ∃ f, f = formedV v := ⟨_, rfl⟩
  rw [← hf] at HFC
  have HFV := Lib.hid hf
  clear hF hp hbw h hg hT hf
  go_enter Tryd.func7, Tryd.ntmps7
  go_wp2_with fail
  refine HFC.out.mono ?_
  rintro e w1 ⟨rfl, hb1⟩
  clear c0 c1 c2
  obtain ⟨c0, c1, c2, hp, hbw⟩ := HF.out _ hb1
  have HB := Lib.hid hbw
  cases f with
  | false =>
    clear hp hbw hb1
    go_wp2
    go_ret2
    exact ⟨.inr ⟨HFV.out.symm, rfl⟩, HB.out⟩
  | true =>
    have hz : size v ≤ 2000 := by
      have := HFV.out
      simp only [formedV, Bool.true_eq, Bool.and_eq_true, decide_eq_true_eq] at this
      exact this.1
    have HX := Lib.hid (text_calls v A c _ hz HG.out hp (HTT.out.below hbw))
    clear hp hbw hb1 hz
    go_wp2_with (go_at_call 15; refine HX.out.mono ?_; rintro e w2 ⟨rfl, hb2⟩)
    go_ret2
    exact ⟨.inl ⟨HFV.out.symm, rfl⟩, below_step HB.out hb2⟩
end Go.Proofs.YtcikgloiojglpaaDoor.Val
