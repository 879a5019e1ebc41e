/- bytes.put and what stands on it: the bytes of a number behind other bytes; a reader's state behind its pointer, and what each of its methods does to it. Conditions: the lengths that each theorem names. -/
import Derived.Test.YtaoagkdmcknlfaaProg
import Derived.Test.YtaoagkdmcknlfaaChecked
import Derived.Test.YtaoagkdmcknlfaaAux
import Derived.RegionTactic
import Derived.BigQuiet
import Derived.Deep.QuietTactic
namespace Go.Proofs.Ytaoagkdmcknlfaa.Bytes
set_option linter.unusedVariables false
open Go.RowKit Go.Proofs.YtaoagkdmcknlfaaW.PrintWords Go.Proofs.Ytaoagkdmcknlfaa.Aux
theorem infoU8 : (Try.prog.info? 5).map (fun i => (i.zero, i.size, i.bytes)) = some (some (.int .u8 0), 1, 1) := by kernel_rfl
/-- The lowest cnt bytes of n, the highest first. -/
def be (n : Int) (cnt : Nat) : List Int := (List.range cnt).map fun i => (n / 2 ^ (8 * (cnt - 1 - i))) % 256
theorem be_length (n : Int) (cnt : Nat) : (be n cnt).length = cnt := by simp [be]


theorem take_be_succ (n : Int) (k j : Nat) (h : j < k) : (be n k).take (j + 1) = (be n k).take j ++ [(n / 2 ^ (8 * (k - 1 - j))) % 256] := by
  rw [List.take_succ_eq_append_getElem (by rw [be_length]; exact h)]
  simp [be]
set_option maxHeartbeats 800000 in
theorem put_calls (b : List Int) (A : Option Addr) (c : Nat) (n cnt : Int) (w : World) (hr : (Kd.int .u8).C w A b.length b) (hc : b.length ≤ c) (hb : b.length ≤ 1000000000) (hn0 : 0 ≤ n) (hn1 : n ≤ 18446744073709551615) (h0 : 1 ≤ cnt) (h1 : cnt ≤ 8) :
    Calls Try.prog 13 #[.slice A b.length c, .int .u64 n, .int .i64 cnt] w fun e w' => ∃ v, e = .returned v ∧ (Kd.int .u8).R 5 w' w.heap.size (fun _ => True) v (b ++ be n cnt.toNat) ∧ Below w.heap.size w w' := by
  obtain ⟨i0, hi, hz0, hz1, hz2⟩ := info_parts infoU8
  obtain ⟨k, rfl⟩ := Int.eq_ofNat_of_zero_le (show 0 ≤ cnt by omega)
  have hmk0 := run_make (P := Try.prog) w 24 5 i0 (.int .u8 0) Try.underlying24 hi hz0 .i64 .i64 (b.length : Int) ((b.length : Int) + (k : Int)) (by omega) (by omega) (by rw [hz2]; omega) (by omega)
  obtain ⟨cur, hcur, hlen⟩ : ∃ cur : List Value, madeCells (Value.int .u8 0).cells (((b.length : Int) + (k : Int)).toNat * i0.size) = cur.toArray ∧ cur.length = b.length + k :=
    ⟨(madeCells (Value.int .u8 0).cells (((b.length : Int) + (k : Int)).toNat * i0.size)).toList, by simp, by rw [Array.length_toList, size_madeCells, hz1]; omega⟩
  have hmk : (Instr.makeSlice 24 (.int .i64 (b.length : Int)) (.int .i64 ((b.length : Int) + (k : Int)))).run Try.prog w = .ok (.slice (some ⟨w.heap.size, 0, none⟩) b.length (b.length + k)) (w.alloc (.cells cur.toArray 5)) := by
    rw [hmk0, hcur]; congr 2
  have hcells := Kd.reads_of_C (d := 0) hr
  have HL := Lib.hid hlen
  have HC := Lib.hid hcells
  clear hmk0 hcur hlen hcells hr
  go_enter Try.func13, Try.ntmps13
  go_wp2_with ((with_reducible refine wpList_copy_splice rfl (.tmp 16) (.tmp 17) 24 24 rfl 5 Try.underlying24 (by kernel_rfl) _ _ _ _ _ _ rfl rfl w.heap.size 0 cur 5 (blk_new w _) (nums .u8 b) ?c1 ?c2 ?c3 ?c4 w.heap.size w (below_alloc (Below.refl _ _) _) (Nat.le_refl _) ?_); rotate_right; intro w1 hblk hbel)
  case c1 => rw [nums_length]; exact (Nat.min_self _).symm
  case c2 =>
    intro h
    obtain ⟨ad, e1, e2⟩ := copy_reads HC.out (below_alloc (Below.refl w.heap.size w) (.cells cur.toArray 5)) h
    first | exact ⟨ad, e1, e2⟩ | exact ⟨rfl, ad, e1, e2⟩
  case c3 => have := HL.out; rw [nums_length]; omega
  case c4 => intro v hv; obtain ⟨x, _, rfl⟩ := List.mem_map.1 hv; rfl
  have own1 : w1.ownsRow w.heap.size 5 1 (.slice (some ⟨w.heap.size, 0, none⟩) (b.length + 0) (b.length + k)) (b.length + 0) (nums .u8 (b ++ (be n k).take 0)) :=
    own_of_blk hblk.out (Nat.le_refl _) (by omega) (by rw [length_splice _ _ _ (by have := HL.out; rw [nums_length]; omega)]; exact HL.out) (by unfold maxLen; omega) (by simp [splice, nums]) (by simp [nums])
  have OWN := Lib.hid own1
  clear own1
  have hk8 : k ≤ 8 := by omega
  go_loopw [7, 8] (fun v s wr => ∃ j : Nat, j ≤ k ∧ s = .int .i64 (8 * ((k : Int) - 1 - j)) ∧ v = .slice (some ⟨w.heap.size, 0, none⟩) (b.length + j) (b.length + k) ∧ Hid (wr.ownsRow w.heap.size 5 1 (.slice (some ⟨w.heap.size, 0, none⟩) (b.length + j) (b.length + k)) (b.length + j) (nums .u8 (b ++ (be n k).take j))) ∧ Hid (Below w.heap.size w wr))
    (fun _ s _ => (intOf s + 8).toNat)
  case atStart => exact ⟨0, by omega, by go_num, rfl, OWN, Lib.hid hbel⟩
  case round =>
    obtain ⟨j, hj, rfl, rfl, hown, hbr⟩ := hrel
    by_cases hlt : j < k
    · obtain ⟨sh, hsh⟩ : ∃ sh : Nat, (8 * ((k : Int) - 1 - j)) = (sh : Int) := ⟨8 * (k - 1 - j), by omega⟩
      have hsh2 : sh = 8 * (k - 1 - j) := by omega
      have HS := Lib.hid hsh2
      clear hsh2
      rw [hsh]
      go_wp2_with ((with_reducible refine wpList_append_fits _ rfl (.tmp 26) (.tmp 31) 24 rfl w.heap.size 5 i0 1 Try.underlying24 hi hz1 w.heap.size (b.length + j) (b.length + k) (nums .u8 (b ++ (be n k).take j)) rfl (own_alloc hown.out _) ⟨wr.heap.size, 0, none⟩ 1 1 [.int .u8 (n / 2 ^ sh % 256)] rfl rfl ?d1 ?d2 ?d3 ?_); rotate_right; intro w2 hown2 hg2)
      case d1 => exact cell_one_new _ _ _
      case d2 => intro u hu; rw [List.mem_singleton.1 hu]; rfl
      case d3 => omega
      have hb2 : Below w.heap.size w w2 := (below_alloc hbr.out _).grown hg2 (by have := hbr.out.size; simp; omega) (fun q hq => by injection hq with hq; omega)
      have ho2 : w2.ownsRow w.heap.size 5 1 (.slice (some ⟨w.heap.size, 0, none⟩) (b.length + (j + 1)) (b.length + k)) (b.length + (j + 1)) (nums .u8 (b ++ (be n k).take (j + 1))) := by
        rw [take_be_succ n k j hlt, ← HS.out, ← List.append_assoc, nums_append]
        exact hown2
      have HO2 := Lib.hid ho2
      have HB2 := Lib.hid hb2
      clear hown2 hg2 ho2 hb2
      go_wp2
      go_roundw
      case rel => exact ⟨j + 1, by omega, by congr 1; omega, rfl, HO2, HB2⟩
      case measure => simp [intOf]; omega
    · have hjk : j = k := by omega
      subst hjk
      go_wp2
      go_ret
      refine ⟨_, rfl, ?_, hbr.out⟩
      have h := hown.out
      rw [List.take_of_length_le (by rw [be_length]; omega)] at h
      refine Kd.R_of_own (enc := Value.int .u8) ?_ (fun _ _ => trivial)
      rw [List.length_append, be_length]
      exact h

set_option maxHeartbeats 400000 in
theorem short_calls (b : List Int) (A : Option Addr) (c : Nat) (n : Int) (w : World) (hr : (Kd.int .u8).C w A b.length b) (hc : b.length ≤ c) (hb : b.length ≤ 1000000000) (hn0 : 0 ≤ n) (hn1 : n ≤ 65535) :
    Calls Try.prog 6 #[.slice A b.length c, .int .i64 n] w fun e w' => ∃ v, e = .returned (.tuple #[v, .int .i64 0]) ∧ (Kd.int .u8).R 5 w' w.heap.size (fun _ => True) v (b ++ be n 2) ∧ Below w.heap.size w w' := by
  have H := Lib.hid hr
  clear hr
  go_enter Try.func6, Try.ntmps6
  go_wp2_with (go_at_call 13; refine (put_calls b A c n 2 _ H.out hc hb hn0 (by omega) (by omega) (by omega)).mono ?_; rintro e w1 ⟨v, rfl, hR, hb1⟩)
  go_ret2
  exact ⟨_, rfl, hR, hb1⟩
/-! ### the reader -/
/-- The reader at block g: what is left, and whether it has failed. -/
def RS (w : World) (g : Nat) (l : List Int) (no : Bool) : Prop :=
  ∃ A c, w.heap[g]? = some (.cells #[.slice A l.length c, .bool no] 51 (0, 0)) ∧ l.length ≤ c ∧ (Kd.int .u8).C w A l.length l
theorem RS.below {w w1 : World} {g : Nat} {l : List Int} {no : Bool} (h : RS w g l no) (hb : Below w.heap.size w w1) : RS w1 g l no := by
  obtain ⟨A, c, h1, h2, h3⟩ := h
  exact ⟨A, c, blk_below h1 hb, h2, Kd.C_below h3 hb⟩
theorem RS.lt {w : World} {g : Nat} {l : List Int} {no : Bool} (h : RS w g l no) : g < w.heap.size := by
  obtain ⟨A, c, h1, h2, h3⟩ := h
  exact blk_lt h1
/-- The bytes lie elsewhere than the reader's own block. -/
theorem C_far {w : World} {g : Nat} {u v : Value} {t : TypeId} {A : Option Addr} {n : Nat} {l : List Int} (h : w.heap[g]? = some (.cells #[u, v] t (0, 0))) (hu : ∀ k x, u ≠ .int k x) (hv : ∀ k x, v ≠ .int k x) (hr : (Kd.int .u8).C w A n l) : ∀ ad, A = some ad → 0 < n → ad.block ≠ g := by
  intro ad e hn he
  have h0 := Kd.reads_of_C (d := 0) hr
  obtain ⟨ad', e', hc⟩ := h0.2.2 hn
  obtain rfl : ad = ad' := by rw [e] at e'; injection e'
  have hcell := hc 0 hn
  have : (ad.add 0) = ad := by unfold Addr.add; simp
  rw [this] at hcell
  unfold World.cell? at hcell
  rw [he, h] at hcell
  simp only at hcell
  split at hcell <;> simp_all
  all_goals
    rename_i hh
    rcases ho : ad.off with _ | _ | o
    all_goals simp_all
theorem RS.set_no {w w1 : World} {g : Nat} {l : List Int} {no : Bool} (h : RS w g l no) (b : Bool) (hw : w1 = w.setCell ⟨g, 1, none⟩ (.bool b)) : RS w1 g l b := by
  subst hw
  obtain ⟨A, c, h1, h2, h3⟩ := h
  refine ⟨A, c, blk_put h1 1 _ rfl, h2, C_grown h3 (grown_set (grown_refl _ _)) (fun _ _ hk => hk) (C_far h1 (by simp) (by simp) h3) (by decide)⟩
theorem info_slice : (Try.prog.info? 5).map (fun i => i.size) = some 1 := by kernel_rfl
set_option maxHeartbeats 400000 in
theorem read_calls (b : List Int) (A : Option Addr) (c : Nat) (w : World) (hr : (Kd.int .u8).C w A b.length b) (hb : b.length ≤ 140737488355328) :
    Calls Try.prog 11 #[.slice A b.length c] w fun e w' => ∃ g, e = .returned (.pointer (some ⟨g, 0, none⟩)) ∧ w.heap.size ≤ g ∧ RS w' g b false ∧ Below w.heap.size w w' := by
  have H : Hid ((Kd.scalar (Value.int .u8) (fun _ => rfl)).C w A b.length b) := Lib.hid hr
  clear hr
  go_enter Try.func11, Try.ntmps11
  go_wp2_with ((with_reducible refine Kd.R_append_row (Value.int .u8) 0 (h1 := fun _ => rfl) (w0 := w) w.heap.size rfl (.const (.slice none 0 0)) (.tmp 3) 24 5 (.int .u8 0) 1 rfl Try.underlying24 infoU8 rfl (by omega) (.slice none 0 0) [] b A b.length c (fun _ => True) rfl rfl (fun _ _ => trivial) (Kd.R_nil _ _ _ _ _) H.out (Below.refl _ _) (Nat.le_refl _) (by simp; omega) ?_); intro v1 w1 hR hb1 hg hat; rw [List.nil_append] at hR; obtain ⟨A1, c1, rfl, hl1, hC1⟩ := Kd.R_reads hR)
  go_ret
  exact ⟨_, rfl, hb1.size, ⟨A1, c1, blk_new w1 _, hl1, Kd.C_below hC1 (below_alloc (Below.refl _ _) _)⟩, below_alloc hb1 _⟩
/-- What is taken, and what is left. -/
def takes (l : List Int) (no : Bool) (n : Nat) : Bool := !no && decide (n ≤ l.length)
def taken (l : List Int) (no : Bool) (n : Nat) : List Int := if takes l no n then l.take n else []
def left (l : List Int) (no : Bool) (n : Nat) : List Int := if takes l no n then l.drop n else l
theorem takes_true {l : List Int} {n : Nat} (h : n ≤ l.length) : takes l false n = true := by simp [takes, h]
theorem takes_no {l : List Int} {n : Nat} : takes l true n = false := by simp [takes]
theorem takes_short {l : List Int} {no : Bool} {n : Nat} (h : l.length < n) : takes l no n = false := by simp [takes]; omega
set_option maxHeartbeats 400000 in
theorem take_no (l : List Int) (g : Nat) (n : Int) (w : World) (hs : RS w g l true) :
    Calls Try.prog 20 #[.pointer (some ⟨g, 0, none⟩), .int .i64 n] w fun e w' => e = .returned (.slice none 0 0) ∧ RS w' g l true ∧ w.grownBy w' (some g) := by
  have HS := Lib.hid hs
  obtain ⟨A, c, h1, h2, h3⟩ := hs
  have c0 : w.cell? ⟨g, 0, none⟩ = some (.slice A l.length c) := (blk_cell h1 0).trans rfl
  have c1 : w.cell? ⟨g, 1, none⟩ = some (.bool true) := (blk_cell h1 1).trans rfl
  have f1 := blk_frozen h1 1
  clear h1 h2 h3
  go_enter Try.func20, Try.ntmps20
  go_wp2
  go_ret
  exact ⟨rfl, HS.out.set_no true rfl, grown_set (grown_refl _ _)⟩
set_option maxHeartbeats 400000 in
theorem take_short (l : List Int) (g : Nat) (n : Int) (w : World) (hs : RS w g l false) (hn : (l.length : Int) < n) :
    Calls Try.prog 20 #[.pointer (some ⟨g, 0, none⟩), .int .i64 n] w fun e w' => e = .returned (.slice none 0 0) ∧ RS w' g l true ∧ w.grownBy w' (some g) := by
  have HS := Lib.hid hs
  obtain ⟨A, c, h1, h2, h3⟩ := hs
  have c0 : w.cell? ⟨g, 0, none⟩ = some (.slice A l.length c) := (blk_cell h1 0).trans rfl
  have c1 : w.cell? ⟨g, 1, none⟩ = some (.bool false) := (blk_cell h1 1).trans rfl
  have f1 := blk_frozen h1 1
  clear h1 h2 h3
  go_enter Try.func20, Try.ntmps20
  go_wp2
  go_ret
  exact ⟨rfl, HS.out.set_no true rfl, grown_set (grown_refl _ _)⟩
set_option maxHeartbeats 800000 in
theorem take_yes (l : List Int) (g : Nat) (n : Nat) (w : World) (hs : RS w g l false) (hn : n ≤ l.length) (hl : l.length ≤ 140737488355328) :
    Calls Try.prog 20 #[.pointer (some ⟨g, 0, none⟩), .int .i64 n] w fun e w' => ∃ A c, e = .returned (.slice A n c) ∧ n ≤ c ∧ (Kd.int .u8).C w' A n (l.take n) ∧ RS w' g (l.drop n) false ∧ w.grownBy w' (some g) := by
  obtain ⟨A, c, h1, h2, h3⟩ := hs
  obtain ⟨i0, hi, hi1⟩ := Option.map_eq_some_iff.1 info_slice
  have c0 : w.cell? ⟨g, 0, none⟩ = some (.slice A l.length c) := (blk_cell h1 0).trans rfl
  have c1 : w.cell? ⟨g, 1, none⟩ = some (.bool false) := (blk_cell h1 1).trans rfl
  have f0 := blk_frozen h1 0
  have f1 := blk_frozen h1 1
  have hge : ¬ (l.length : Int) < n := by omega
  obtain ⟨ht1, ht2, ht3⟩ := print_take_of (P := Try.prog) (Value.int .u8) (0 : Int) 24 5 .i64 Try.underlying24 hi hi1 A c l n (by omega) (by omega) h2
  obtain ⟨A2, hd1, hd2, hd3⟩ := print_drop_of (P := Try.prog) (Value.int .u8) (0 : Int) 24 5 .i64 Try.underlying24 hi hi1 A c l n (by omega) (by omega) h2
  rw [Int.toNat_natCast] at ht1 ht2 ht3 hd1 hd2 hd3
  have HT2 := Lib.hid ht2
  have HD2 := Lib.hid hd2
  have HB := Lib.hid h1
  have HR := Lib.hid h3
  have HT3 := Lib.hid ht3
  have HD3 := Lib.hid hd3
  clear ht2 hd2 h1 h3 ht3 hd3
  go_enter Try.func20, Try.ntmps20
  go_wp2
  go_ret
  have h1 := HB.out
  have hb2 : ((w.setCell ⟨g, 1, none⟩ (.bool false)).setCell ⟨g, 0, none⟩ (.slice A2 (l.length - n) (c - n))).heap[g]? = some (.cells #[.slice A2 (l.drop n).length (c - n), .bool false] 51 (0, 0)) := by
    rw [List.length_drop]
    exact blk_put (blk_put h1 1 _ rfl) 0 _ rfl
  have hfar := C_far h1 (by simp) (by simp) HR.out
  have hC : (Kd.int .u8).C ((w.setCell ⟨g, 1, none⟩ (.bool false)).setCell ⟨g, 0, none⟩ (.slice A2 (l.length - n) (c - n))) A l.length l :=
    C_grown HR.out (grown_set (grown_set (grown_refl _ _))) (fun _ _ hk => hk) hfar (by decide)
  have hR0 := Kd.reads_of_C (d := 0) hC
  have hlen : (l.take n).length = n := by rw [List.length_take]; omega
  refine ⟨A, c, rfl, by omega, ?_, ⟨A2, c - n, hb2, HD3.out, Kd.C_of_reads (d := 0) (HD2.out _ hR0)⟩, grown_set (grown_set (grown_refl _ _))⟩
  have := HT2.out _ hR0
  rw [hlen] at this
  exact Kd.C_of_reads (d := 0) this
/-- The number of some bytes, the highest first. -/
def num (xs : List Int) : Int := xs.foldl (fun x c => (x * 256 + c) % 18446744073709551616) 0
theorem num_snoc (xs : List Int) (c : Int) : num (xs ++ [c]) = (num xs * 256 + c) % 18446744073709551616 := by simp [num]
theorem num_take_succ (l : List Int) (k : Nat) (h : k < l.length) : num (l.take (k + 1)) = (num (l.take k) * 256 + l.getD k 0) % 18446744073709551616 := by
  rw [List.take_succ_eq_append_getElem h, num_snoc]
  simp [h]
theorem num_range (xs : List Int) : 0 ≤ num xs ∧ num xs < 18446744073709551616 := by
  rcases List.eq_nil_or_concat xs with rfl | ⟨l, c, rfl⟩
  · simp [num]
  · rw [List.concat_eq_append, num_snoc]; omega
theorem getD_range {l : List Int} (hx : ∀ x ∈ l, 0 ≤ x ∧ x ≤ 255) (k : Nat) : 0 ≤ l.getD k 0 ∧ l.getD k 0 ≤ 255 := by
  rcases Nat.lt_or_ge k l.length with h | h
  · have := hx l[k] (List.getElem_mem h)
    simpa [h] using this
  · simp [List.getD_eq_getElem?_getD, List.getElem?_eq_none h]
set_option maxHeartbeats 800000 in
theorem number_yes (l : List Int) (g : Nat) (n : Nat) (w : World) (hs : RS w g l false) (hn : n ≤ l.length) (hl : l.length ≤ 140737488355328) (hx : ∀ x ∈ l, 0 ≤ x ∧ x ≤ 255) :
    Calls Try.prog 19 #[.pointer (some ⟨g, 0, none⟩), .int .i64 n] w fun e w' => e = .returned (.int .u64 (num (l.take n))) ∧ RS w' g (l.drop n) false ∧ w.grownBy w' (some g) := by
  have HS := Lib.hid hs
  clear hs
  go_enter Try.func19, Try.ntmps19
  go_wp2_with (go_at_call 20; refine (take_yes l g n w HS.out hn hl).mono ?_; rintro e w1 ⟨A, c, rfl, hc, hC, hR, hg⟩)
  have HC := Lib.hid hC
  have HR := Lib.hid hR
  have HG := Lib.hid hg
  clear hC hR hg HS
  have hlen : (l.take n).length = n := by rw [List.length_take]; omega
  have HL := Lib.hid hlen
  clear hlen
  have hn63 : n ≤ 140737488355328 := by omega
  go_loop [5, 12] (fun x i => ∃ k : Nat, k ≤ n ∧ i = .int .i64 k ∧ x = .int .u64 (num (l.take k))) (fun _ i => n - (intOf i).toNat)
  case atStart => exact ⟨0, Nat.zero_le _, rfl, rfl⟩
  case round =>
    obtain ⟨k, hk, rfl, rfl⟩ := hrel
    by_cases hlt : k < n
    · obtain ⟨ad, hA, hcell0⟩ := (Kd.reads_of_C (d := 0) HC.out).2.2 (show 0 < n by omega)
      subst hA
      have hcell : w1.cell? (ad.add k) = some (.int .u8 ((l.take n).getD k 0)) := hcell0 k hlt
      obtain ⟨c0, hc0⟩ : ∃ c0, c0 = (l.take n).getD k 0 := ⟨_, rfl⟩
      rw [← hc0] at hcell
      have HC0 := Lib.hid hc0
      clear hc0 hcell0
      obtain ⟨x0, hx0⟩ : ∃ x0, x0 = num (l.take k) := ⟨_, rfl⟩
      rw [← hx0]
      have HX0 := Lib.hid hx0
      clear hx0
      go_wp2
      go_round
      case rel =>
        refine ⟨k + 1, by omega, by go_num, ?_⟩
        have hc1 : c0 = l.getD k 0 := by
          rw [HC0.out]
          simp [List.getD_eq_getElem?_getD, hlt]
        have hr := getD_range hx k
        rw [← hc1] at hr
        rw [bits_shift_or x0 c0 (by rw [HX0.out]; exact (num_range _).1) hr.1 hr.2, num_take_succ l k (by omega), ← hc1, ← HX0.out]
      case measure => simp [intOf]; omega
    · obtain rfl : k = n := by omega
      go_wp2
      go_ret
      exact ⟨rfl, HR.out, HG.out⟩
/-- What a failed reader, or one with too few bytes, tells. -/
theorem number_nil (g : Nat) (n : Int) (w : World) {R : World → Prop} (h : Calls Try.prog 20 #[.pointer (some ⟨g, 0, none⟩), .int .i64 n] w fun e w' => e = .returned (.slice none 0 0) ∧ R w') :
    Calls Try.prog 19 #[.pointer (some ⟨g, 0, none⟩), .int .i64 n] w fun e w' => e = .returned (.int .u64 0) ∧ R w' := by
  have H := Lib.hid h
  clear h
  go_enter Try.func19, Try.ntmps19
  go_wp2_with (go_at_call 20; refine H.out.mono ?_; rintro e w1 ⟨rfl, hR⟩; have HR := Lib.hid hR; clear hR)
  refine wp_loop_rounds 1 ?_
  rw [rounds_succ]
  go_wp2
  go_ret
  exact ⟨rfl, HR.out⟩
theorem number_no (l : List Int) (g : Nat) (n : Int) (w : World) (hs : RS w g l true) :
    Calls Try.prog 19 #[.pointer (some ⟨g, 0, none⟩), .int .i64 n] w fun e w' => e = .returned (.int .u64 0) ∧ RS w' g l true ∧ w.grownBy w' (some g) :=
  number_nil g n w (R := fun w' => RS w' g l true ∧ w.grownBy w' (some g)) (take_no l g n w hs)
theorem number_short (l : List Int) (g : Nat) (n : Int) (w : World) (hs : RS w g l false) (hn : (l.length : Int) < n) :
    Calls Try.prog 19 #[.pointer (some ⟨g, 0, none⟩), .int .i64 n] w fun e w' => e = .returned (.int .u64 0) ∧ RS w' g l true ∧ w.grownBy w' (some g) :=
  number_nil g n w (R := fun w' => RS w' g l true ∧ w.grownBy w' (some g)) (take_short l g n w hs hn)
/-- A reader's next step by n bytes: the number, what is left, has it failed. -/
def nx (l : List Int) (no : Bool) (n : Nat) : Int := if no then 0 else if n ≤ l.length then num (l.take n) else 0
def lf (l : List Int) (no : Bool) (n : Nat) : List Int := if no then l else if n ≤ l.length then l.drop n else l
def fl (l : List Int) (no : Bool) (n : Nat) : Bool := no || !decide (n ≤ l.length)
theorem number_calls (l : List Int) (no : Bool) (g : Nat) (n : Nat) (w : World) (hs : RS w g l no) (hl : l.length ≤ 140737488355328) (hx : ∀ x ∈ l, 0 ≤ x ∧ x ≤ 255) :
    Calls Try.prog 19 #[.pointer (some ⟨g, 0, none⟩), .int .i64 n] w fun e w' => e = .returned (.int .u64 (nx l no n)) ∧ RS w' g (lf l no n) (fl l no n) ∧ w.grownBy w' (some g) := by
  cases no with
  | true => simpa [nx, lf, fl] using number_no l g n w hs
  | false =>
    by_cases h : n ≤ l.length
    · simpa [nx, lf, fl, h] using number_yes l g n w hs h hl hx
    · simpa [nx, lf, fl, h] using number_short l g n w hs (by omega)
theorem nx_two {l : List Int} {no : Bool} (hx : ∀ x ∈ l, 0 ≤ x ∧ x ≤ 255) : 0 ≤ nx l no 2 ∧ nx l no 2 ≤ 65535 := by
  unfold nx
  split
  · omega
  · split
    · match l, hx with
      | [], _ => simp at *
      | [_], _ => simp at *
      | a :: b :: t, hx =>
        have h1 := hx a (by simp)
        have h2 := hx b (by simp)
        simp [num]
        omega
    · omega
theorem rshort_calls (l : List Int) (no : Bool) (g : Nat) (w : World) (hs : RS w g l no) (hl : l.length ≤ 140737488355328) (hx : ∀ x ∈ l, 0 ≤ x ∧ x ≤ 255) :
    Calls Try.prog 12 #[.pointer (some ⟨g, 0, none⟩)] w fun e w' => e = .returned (.int .i64 (nx l no 2)) ∧ RS w' g (lf l no 2) (fl l no 2) ∧ w.grownBy w' (some g) := by
  have HS := Lib.hid hs
  clear hs
  go_enter Try.func12, Try.ntmps12
  go_wp2_with (go_at_call 19; refine (number_calls l no g 2 w HS.out hl hx).mono ?_; rintro e w1 ⟨rfl, hR⟩)
  go_ret
  have h := nx_two (l := l) (no := no) hx
  exact ⟨by rw [wrap64_id (by omega) (by omega)]; rfl, hR⟩
theorem two_cells {e base : Nat} {w : World} {ok : Nat → Prop} {v : Value} {x y : Int} (h : (Kd.int .u8).R e w base ok v [x, y]) : ∃ g c, v = .slice (some ⟨g, 0, none⟩) 2 c ∧ w.cell? ⟨g, 0, none⟩ = some (.int .u8 x) ∧ w.cell? ⟨g, 1, none⟩ = some (.int .u8 y) ∧ g < w.heap.size := by
  have ho : w.ownsRow base e 1 v 2 (encs (Value.int .u8) [x, y]) := Kd.own_of_R h
  obtain ⟨g, cap, rfl, _, _⟩ := ho.form (by omega)
  exact ⟨g, cap, rfl, by have := ho.cells (g := g) rfl 0 (.int .u8 x) (by simp [encs]); rwa [add_plain] at this, by have := ho.cells (g := g) rfl 1 (.int .u8 y) (by simp [encs]); rwa [add_plain] at this, own_lt ho g rfl⟩
end Go.Proofs.Ytaoagkdmcknlfaa.Bytes
