/- The walks behind EvalReckons: eval.Reckon, the reference's Reckon, and what the law asks of them, each at every number. No further condition. -/
import Derived.Test.YtaoagkdmcknlfaaProg
import Derived.Test.YtaoagkdmcknlfaaChecked
import Derived.Test.YtaoagkdmcknlfaaWWords
import Derived.WalkKit
import Derived.RegionTactic
import Derived.BigQuiet
import Derived.Deep.QuietTactic
import Derived.Lib.Hide
namespace Go.Proofs.Ytaoagkdmcknlfaa.Eval
set_option linter.unusedVariables false
open Go.RowKit Go.Proofs.YtaoagkdmcknlfaaW.PrintWords
def leaf (k n : Int) : Value := .agg #[.int .i64 k, .int .i64 n, .slice none 0 0]
theorem integer_calls (n : Int) (w : World) : Calls Try.prog 15 #[.int .i64 n] w fun e w' => e = .returned (.agg #[.int .i64 1, .int .i64 n, .slice none 0 0]) ∧ Below w.heap.size w w' := by
  go_enter Try.func15, Try.ntmps15
  go_wp2
  exact bodyPost_ret (v := .agg #[.int .i64 1, .int .i64 n, .slice none 0 0]) (by simp [results, Try.results15, go_sem]) rfl ⟨rfl, below_alloc (Below.refl _ _) _⟩
theorem truth_calls (b : Bool) (w : World) : Calls Try.prog 16 #[.bool b] w fun e w' => e = .returned (.agg #[.int .i64 2, .int .i64 (if b then 1 else 0), .slice none 0 0]) ∧ Below w.heap.size w w' := by
  cases b
  all_goals
    go_enter Try.func16, Try.ntmps16
    go_wp2
    exact bodyPost_ret (v := .agg #[.int .i64 2, .int .i64 _, .slice none 0 0]) (by simp [results, Try.results16, go_sem]) rfl ⟨rfl, below_alloc (Below.refl _ _) _⟩
theorem integer_calls' (n : Int) (w : World) : Calls Try.prog 17 #[.int .i64 n] w fun e w' => e = .returned (.agg #[.int .i64 1, .int .i64 n, .slice none 0 0]) ∧ Below w.heap.size w w' := by
  go_enter Try.func17, Try.ntmps17
  go_wp2
  exact bodyPost_ret (v := .agg #[.int .i64 1, .int .i64 n, .slice none 0 0]) (by simp [results, Try.results17, go_sem]) rfl ⟨rfl, below_alloc (Below.refl _ _) _⟩
theorem truth_calls' (b : Bool) (w : World) : Calls Try.prog 18 #[.bool b] w fun e w' => e = .returned (.agg #[.int .i64 2, .int .i64 (if b then 1 else 0), .slice none 0 0]) ∧ Below w.heap.size w w' := by
  cases b
  all_goals
    go_enter Try.func18, Try.ntmps18
    go_wp2
    exact bodyPost_ret (v := .agg #[.int .i64 2, .int .i64 _, .slice none 0 0]) (by simp [results, Try.results18, go_sem]) rfl ⟨rfl, below_alloc (below_alloc (Below.refl _ _) _) _⟩

theorem wf_bounds {n : Int} (h : (Lit.int .i64 n).wf = true) : -9223372036854775808 ≤ n ∧ n ≤ 9223372036854775807 := by
  have := h
  simp [Lit.wf, IntKind.min, IntKind.max, IntKind.bits, IntKind.signed] at this
  omega
set_option maxHeartbeats 400000 in
theorem reckon6 (a b : Int) (w : World) : Calls Try.prog 8 #[.int .i64 6, .int .i64 a, .int .i64 b] w fun e w' => e = .returned (.tuple #[.agg #[.int .i64 1, .int .i64 (wrap64 (a + b)), .slice none 0 0], .bool true]) ∧ Below w.heap.size w w' := by
  go_enter Try.func8, Try.ntmps8
  go_wp2_with (go_at_call 15; refine (integer_calls _ _).mono ?_; rintro e w1 ⟨rfl, hb⟩; have hz := hb.size; have bk := blk_below (blk_new w _) hb; have c0 := blk_cell bk 0; have c1 := blk_cell bk 1; have c2 := blk_cell bk 2; have f0 := blk_frozen bk 0; have f1 := blk_frozen bk 1; have f2 := blk_frozen bk 2; simp only [List.getElem?_toArray, List.getElem?_cons_zero, List.getElem?_cons_succ] at c0 c1 c2)
  exact bodyPost_ret (results_ct rfl _ _ w.heap.size 31 #[.int .i64 1, .int .i64 (wrap64 (a + b)), .slice none 0 0] (0, 0) _ rfl (blk_put (cs := #[.int .i64 1, .int .i64 (wrap64 (a + b)), .slice none 0 0]) (blk_put (cs := #[.int .i64 1, .int .i64 0, .slice none 0 0]) (blk_put bk 0 _ rfl) 1 _ rfl) 2 _ rfl) Try.underlying31 rfl rfl) rfl ⟨rfl, below_set (below_set (below_set (below_step (below_alloc (Below.refl _ _) _) hb) (Nat.le_refl _)) (Nat.le_refl _)) (Nat.le_refl _)⟩

set_option maxHeartbeats 400000 in
theorem reckon7 (a b : Int) (w : World) : Calls Try.prog 8 #[.int .i64 7, .int .i64 a, .int .i64 b] w fun e w' => e = .returned (.tuple #[.agg #[.int .i64 1, .int .i64 (wrap64 (a - b)), .slice none 0 0], .bool true]) ∧ Below w.heap.size w w' := by
  go_enter Try.func8, Try.ntmps8
  go_wp2_with (go_at_call 15; refine (integer_calls _ _).mono ?_; rintro e w1 ⟨rfl, hb⟩; have hz := hb.size; have bk := blk_below (blk_new w _) hb; have c0 := blk_cell bk 0; have c1 := blk_cell bk 1; have c2 := blk_cell bk 2; have f0 := blk_frozen bk 0; have f1 := blk_frozen bk 1; have f2 := blk_frozen bk 2; simp only [List.getElem?_toArray, List.getElem?_cons_zero, List.getElem?_cons_succ] at c0 c1 c2)
  exact bodyPost_ret (results_ct rfl _ _ w.heap.size 31 #[.int .i64 1, .int .i64 (wrap64 (a - b)), .slice none 0 0] (0, 0) _ rfl (blk_put (cs := #[.int .i64 1, .int .i64 (wrap64 (a - b)), .slice none 0 0]) (blk_put (cs := #[.int .i64 1, .int .i64 0, .slice none 0 0]) (blk_put bk 0 _ rfl) 1 _ rfl) 2 _ rfl) Try.underlying31 rfl rfl) rfl ⟨rfl, below_set (below_set (below_set (below_step (below_alloc (Below.refl _ _) _) hb) (Nat.le_refl _)) (Nat.le_refl _)) (Nat.le_refl _)⟩

set_option maxHeartbeats 400000 in
theorem reckon8 (a b : Int) (w : World) : Calls Try.prog 8 #[.int .i64 8, .int .i64 a, .int .i64 b] w fun e w' => e = .returned (.tuple #[.agg #[.int .i64 1, .int .i64 (wrap64 (a * b)), .slice none 0 0], .bool true]) ∧ Below w.heap.size w w' := by
  go_enter Try.func8, Try.ntmps8
  go_wp2_with (go_at_call 15; refine (integer_calls _ _).mono ?_; rintro e w1 ⟨rfl, hb⟩; have hz := hb.size; have bk := blk_below (blk_new w _) hb; have c0 := blk_cell bk 0; have c1 := blk_cell bk 1; have c2 := blk_cell bk 2; have f0 := blk_frozen bk 0; have f1 := blk_frozen bk 1; have f2 := blk_frozen bk 2; simp only [List.getElem?_toArray, List.getElem?_cons_zero, List.getElem?_cons_succ] at c0 c1 c2)
  exact bodyPost_ret (results_ct rfl _ _ w.heap.size 31 #[.int .i64 1, .int .i64 (wrap64 (a * b)), .slice none 0 0] (0, 0) _ rfl (blk_put (cs := #[.int .i64 1, .int .i64 (wrap64 (a * b)), .slice none 0 0]) (blk_put (cs := #[.int .i64 1, .int .i64 0, .slice none 0 0]) (blk_put bk 0 _ rfl) 1 _ rfl) 2 _ rfl) Try.underlying31 rfl rfl) rfl ⟨rfl, below_set (below_set (below_set (below_step (below_alloc (Below.refl _ _) _) hb) (Nat.le_refl _)) (Nat.le_refl _)) (Nat.le_refl _)⟩

set_option maxHeartbeats 400000 in
theorem reckon11t (a b : Int) (w : World) (hd : decide (a < b) = true) : Calls Try.prog 8 #[.int .i64 11, .int .i64 a, .int .i64 b] w fun e w' => e = .returned (.tuple #[.agg #[.int .i64 2, .int .i64 (1), .slice none 0 0], .bool true]) ∧ Below w.heap.size w w' := by
  go_enter Try.func8, Try.ntmps8
  go_wp2_with (go_at_call 16; refine (truth_calls true _).mono ?_; rintro e w1 ⟨rfl, hb⟩; have hz := hb.size; have bk := blk_below (blk_new w _) hb; have c0 := blk_cell bk 0; have c1 := blk_cell bk 1; have c2 := blk_cell bk 2; have f0 := blk_frozen bk 0; have f1 := blk_frozen bk 1; have f2 := blk_frozen bk 2; simp only [List.getElem?_toArray, List.getElem?_cons_zero, List.getElem?_cons_succ] at c0 c1 c2)
  exact bodyPost_ret (results_ct rfl _ _ w.heap.size 31 #[.int .i64 2, .int .i64 (1), .slice none 0 0] (0, 0) _ rfl (blk_put (cs := #[.int .i64 2, .int .i64 (1), .slice none 0 0]) (blk_put (cs := #[.int .i64 2, .int .i64 0, .slice none 0 0]) (blk_put bk 0 _ rfl) 1 _ rfl) 2 _ rfl) Try.underlying31 rfl rfl) rfl ⟨rfl, below_set (below_set (below_set (below_step (below_alloc (Below.refl _ _) _) hb) (Nat.le_refl _)) (Nat.le_refl _)) (Nat.le_refl _)⟩

set_option maxHeartbeats 400000 in
theorem reckon12t (a b : Int) (w : World) (hd : (a == b) = true) : Calls Try.prog 8 #[.int .i64 12, .int .i64 a, .int .i64 b] w fun e w' => e = .returned (.tuple #[.agg #[.int .i64 2, .int .i64 (1), .slice none 0 0], .bool true]) ∧ Below w.heap.size w w' := by
  go_enter Try.func8, Try.ntmps8
  go_wp2_with (go_at_call 16; refine (truth_calls true _).mono ?_; rintro e w1 ⟨rfl, hb⟩; have hz := hb.size; have bk := blk_below (blk_new w _) hb; have c0 := blk_cell bk 0; have c1 := blk_cell bk 1; have c2 := blk_cell bk 2; have f0 := blk_frozen bk 0; have f1 := blk_frozen bk 1; have f2 := blk_frozen bk 2; simp only [List.getElem?_toArray, List.getElem?_cons_zero, List.getElem?_cons_succ] at c0 c1 c2)
  exact bodyPost_ret (results_ct rfl _ _ w.heap.size 31 #[.int .i64 2, .int .i64 (1), .slice none 0 0] (0, 0) _ rfl (blk_put (cs := #[.int .i64 2, .int .i64 (1), .slice none 0 0]) (blk_put (cs := #[.int .i64 2, .int .i64 0, .slice none 0 0]) (blk_put bk 0 _ rfl) 1 _ rfl) 2 _ rfl) Try.underlying31 rfl rfl) rfl ⟨rfl, below_set (below_set (below_set (below_step (below_alloc (Below.refl _ _) _) hb) (Nat.le_refl _)) (Nat.le_refl _)) (Nat.le_refl _)⟩

set_option maxHeartbeats 400000 in
theorem reckon11f (a b : Int) (w : World) (hd : decide (a < b) = false) : Calls Try.prog 8 #[.int .i64 11, .int .i64 a, .int .i64 b] w fun e w' => e = .returned (.tuple #[.agg #[.int .i64 2, .int .i64 (0), .slice none 0 0], .bool true]) ∧ Below w.heap.size w w' := by
  go_enter Try.func8, Try.ntmps8
  go_wp2_with (go_at_call 16; refine (truth_calls false _).mono ?_; rintro e w1 ⟨rfl, hb⟩; have hz := hb.size; have bk := blk_below (blk_new w _) hb; have c0 := blk_cell bk 0; have c1 := blk_cell bk 1; have c2 := blk_cell bk 2; have f0 := blk_frozen bk 0; have f1 := blk_frozen bk 1; have f2 := blk_frozen bk 2; simp only [List.getElem?_toArray, List.getElem?_cons_zero, List.getElem?_cons_succ] at c0 c1 c2)
  exact bodyPost_ret (results_ct rfl _ _ w.heap.size 31 #[.int .i64 2, .int .i64 (0), .slice none 0 0] (0, 0) _ rfl (blk_put (cs := #[.int .i64 2, .int .i64 (0), .slice none 0 0]) (blk_put (cs := #[.int .i64 2, .int .i64 0, .slice none 0 0]) (blk_put bk 0 _ rfl) 1 _ rfl) 2 _ rfl) Try.underlying31 rfl rfl) rfl ⟨rfl, below_set (below_set (below_set (below_step (below_alloc (Below.refl _ _) _) hb) (Nat.le_refl _)) (Nat.le_refl _)) (Nat.le_refl _)⟩

set_option maxHeartbeats 400000 in
theorem reckon12f (a b : Int) (w : World) (hd : (a == b) = false) : Calls Try.prog 8 #[.int .i64 12, .int .i64 a, .int .i64 b] w fun e w' => e = .returned (.tuple #[.agg #[.int .i64 2, .int .i64 (0), .slice none 0 0], .bool true]) ∧ Below w.heap.size w w' := by
  go_enter Try.func8, Try.ntmps8
  go_wp2_with (go_at_call 16; refine (truth_calls false _).mono ?_; rintro e w1 ⟨rfl, hb⟩; have hz := hb.size; have bk := blk_below (blk_new w _) hb; have c0 := blk_cell bk 0; have c1 := blk_cell bk 1; have c2 := blk_cell bk 2; have f0 := blk_frozen bk 0; have f1 := blk_frozen bk 1; have f2 := blk_frozen bk 2; simp only [List.getElem?_toArray, List.getElem?_cons_zero, List.getElem?_cons_succ] at c0 c1 c2)
  exact bodyPost_ret (results_ct rfl _ _ w.heap.size 31 #[.int .i64 2, .int .i64 (0), .slice none 0 0] (0, 0) _ rfl (blk_put (cs := #[.int .i64 2, .int .i64 (0), .slice none 0 0]) (blk_put (cs := #[.int .i64 2, .int .i64 0, .slice none 0 0]) (blk_put bk 0 _ rfl) 1 _ rfl) 2 _ rfl) Try.underlying31 rfl rfl) rfl ⟨rfl, below_set (below_set (below_set (below_step (below_alloc (Below.refl _ _) _) hb) (Nat.le_refl _)) (Nat.le_refl _)) (Nat.le_refl _)⟩

set_option maxHeartbeats 400000 in
theorem reckonR6 (a b : Int) (w : World) : Calls Try.prog 9 #[.int .i64 6, .int .i64 a, .int .i64 b] w fun e w' => e = .returned (.tuple #[.agg #[.int .i64 1, .int .i64 (wrap64 (a + b)), .slice none 0 0], .bool true]) ∧ Below w.heap.size w w' := by
  go_enter Try.func9, Try.ntmps9
  go_wp2_with (go_at_call 17; refine (integer_calls' _ _).mono ?_; rintro e w1 ⟨rfl, hb⟩; have hz := hb.size; have bk := blk_below (blk_new w _) hb; have c0 := blk_cell bk 0; have c1 := blk_cell bk 1; have c2 := blk_cell bk 2; have f0 := blk_frozen bk 0; have f1 := blk_frozen bk 1; have f2 := blk_frozen bk 2; simp only [List.getElem?_toArray, List.getElem?_cons_zero, List.getElem?_cons_succ] at c0 c1 c2)
  exact bodyPost_ret (results_ct rfl _ _ w.heap.size 31 #[.int .i64 1, .int .i64 (wrap64 (a + b)), .slice none 0 0] (0, 0) _ rfl (blk_put (cs := #[.int .i64 1, .int .i64 (wrap64 (a + b)), .slice none 0 0]) (blk_put (cs := #[.int .i64 1, .int .i64 0, .slice none 0 0]) (blk_put bk 0 _ rfl) 1 _ rfl) 2 _ rfl) Try.underlying31 rfl rfl) rfl ⟨rfl, below_set (below_set (below_set (below_step (below_alloc (Below.refl _ _) _) hb) (Nat.le_refl _)) (Nat.le_refl _)) (Nat.le_refl _)⟩

set_option maxHeartbeats 400000 in
theorem reckonR7 (a b : Int) (w : World) : Calls Try.prog 9 #[.int .i64 7, .int .i64 a, .int .i64 b] w fun e w' => e = .returned (.tuple #[.agg #[.int .i64 1, .int .i64 (wrap64 (a - b)), .slice none 0 0], .bool true]) ∧ Below w.heap.size w w' := by
  go_enter Try.func9, Try.ntmps9
  go_wp2_with (go_at_call 17; refine (integer_calls' _ _).mono ?_; rintro e w1 ⟨rfl, hb⟩; have hz := hb.size; have bk := blk_below (blk_new w _) hb; have c0 := blk_cell bk 0; have c1 := blk_cell bk 1; have c2 := blk_cell bk 2; have f0 := blk_frozen bk 0; have f1 := blk_frozen bk 1; have f2 := blk_frozen bk 2; simp only [List.getElem?_toArray, List.getElem?_cons_zero, List.getElem?_cons_succ] at c0 c1 c2)
  exact bodyPost_ret (results_ct rfl _ _ w.heap.size 31 #[.int .i64 1, .int .i64 (wrap64 (a - b)), .slice none 0 0] (0, 0) _ rfl (blk_put (cs := #[.int .i64 1, .int .i64 (wrap64 (a - b)), .slice none 0 0]) (blk_put (cs := #[.int .i64 1, .int .i64 0, .slice none 0 0]) (blk_put bk 0 _ rfl) 1 _ rfl) 2 _ rfl) Try.underlying31 rfl rfl) rfl ⟨rfl, below_set (below_set (below_set (below_step (below_alloc (Below.refl _ _) _) hb) (Nat.le_refl _)) (Nat.le_refl _)) (Nat.le_refl _)⟩

set_option maxHeartbeats 400000 in
theorem reckonR8 (a b : Int) (w : World) : Calls Try.prog 9 #[.int .i64 8, .int .i64 a, .int .i64 b] w fun e w' => e = .returned (.tuple #[.agg #[.int .i64 1, .int .i64 (wrap64 (a * b)), .slice none 0 0], .bool true]) ∧ Below w.heap.size w w' := by
  go_enter Try.func9, Try.ntmps9
  go_wp2_with (go_at_call 17; refine (integer_calls' _ _).mono ?_; rintro e w1 ⟨rfl, hb⟩; have hz := hb.size; have bk := blk_below (blk_new w _) hb; have c0 := blk_cell bk 0; have c1 := blk_cell bk 1; have c2 := blk_cell bk 2; have f0 := blk_frozen bk 0; have f1 := blk_frozen bk 1; have f2 := blk_frozen bk 2; simp only [List.getElem?_toArray, List.getElem?_cons_zero, List.getElem?_cons_succ] at c0 c1 c2)
  exact bodyPost_ret (results_ct rfl _ _ w.heap.size 31 #[.int .i64 1, .int .i64 (wrap64 (a * b)), .slice none 0 0] (0, 0) _ rfl (blk_put (cs := #[.int .i64 1, .int .i64 (wrap64 (a * b)), .slice none 0 0]) (blk_put (cs := #[.int .i64 1, .int .i64 0, .slice none 0 0]) (blk_put bk 0 _ rfl) 1 _ rfl) 2 _ rfl) Try.underlying31 rfl rfl) rfl ⟨rfl, below_set (below_set (below_set (below_step (below_alloc (Below.refl _ _) _) hb) (Nat.le_refl _)) (Nat.le_refl _)) (Nat.le_refl _)⟩

set_option maxHeartbeats 400000 in
theorem reckonR11t (a b : Int) (w : World) (hd : decide (a < b) = true) : Calls Try.prog 9 #[.int .i64 11, .int .i64 a, .int .i64 b] w fun e w' => e = .returned (.tuple #[.agg #[.int .i64 2, .int .i64 (1), .slice none 0 0], .bool true]) ∧ Below w.heap.size w w' := by
  go_enter Try.func9, Try.ntmps9
  go_wp2_with (go_at_call 18; refine (truth_calls' true _).mono ?_; rintro e w1 ⟨rfl, hb⟩; have hz := hb.size; have bk := blk_below (blk_new w _) hb; have c0 := blk_cell bk 0; have c1 := blk_cell bk 1; have c2 := blk_cell bk 2; have f0 := blk_frozen bk 0; have f1 := blk_frozen bk 1; have f2 := blk_frozen bk 2; simp only [List.getElem?_toArray, List.getElem?_cons_zero, List.getElem?_cons_succ] at c0 c1 c2)
  exact bodyPost_ret (results_ct rfl _ _ w.heap.size 31 #[.int .i64 2, .int .i64 (1), .slice none 0 0] (0, 0) _ rfl (blk_put (cs := #[.int .i64 2, .int .i64 (1), .slice none 0 0]) (blk_put (cs := #[.int .i64 2, .int .i64 0, .slice none 0 0]) (blk_put bk 0 _ rfl) 1 _ rfl) 2 _ rfl) Try.underlying31 rfl rfl) rfl ⟨rfl, below_set (below_set (below_set (below_step (below_alloc (Below.refl _ _) _) hb) (Nat.le_refl _)) (Nat.le_refl _)) (Nat.le_refl _)⟩

set_option maxHeartbeats 400000 in
theorem reckonR12t (a b : Int) (w : World) (hd : (a == b) = true) : Calls Try.prog 9 #[.int .i64 12, .int .i64 a, .int .i64 b] w fun e w' => e = .returned (.tuple #[.agg #[.int .i64 2, .int .i64 (1), .slice none 0 0], .bool true]) ∧ Below w.heap.size w w' := by
  go_enter Try.func9, Try.ntmps9
  go_wp2_with (go_at_call 18; refine (truth_calls' true _).mono ?_; rintro e w1 ⟨rfl, hb⟩; have hz := hb.size; have bk := blk_below (blk_new w _) hb; have c0 := blk_cell bk 0; have c1 := blk_cell bk 1; have c2 := blk_cell bk 2; have f0 := blk_frozen bk 0; have f1 := blk_frozen bk 1; have f2 := blk_frozen bk 2; simp only [List.getElem?_toArray, List.getElem?_cons_zero, List.getElem?_cons_succ] at c0 c1 c2)
  exact bodyPost_ret (results_ct rfl _ _ w.heap.size 31 #[.int .i64 2, .int .i64 (1), .slice none 0 0] (0, 0) _ rfl (blk_put (cs := #[.int .i64 2, .int .i64 (1), .slice none 0 0]) (blk_put (cs := #[.int .i64 2, .int .i64 0, .slice none 0 0]) (blk_put bk 0 _ rfl) 1 _ rfl) 2 _ rfl) Try.underlying31 rfl rfl) rfl ⟨rfl, below_set (below_set (below_set (below_step (below_alloc (Below.refl _ _) _) hb) (Nat.le_refl _)) (Nat.le_refl _)) (Nat.le_refl _)⟩

set_option maxHeartbeats 400000 in
theorem reckonR11f (a b : Int) (w : World) (hd : decide (a < b) = false) : Calls Try.prog 9 #[.int .i64 11, .int .i64 a, .int .i64 b] w fun e w' => e = .returned (.tuple #[.agg #[.int .i64 2, .int .i64 (0), .slice none 0 0], .bool true]) ∧ Below w.heap.size w w' := by
  go_enter Try.func9, Try.ntmps9
  go_wp2_with (go_at_call 18; refine (truth_calls' false _).mono ?_; rintro e w1 ⟨rfl, hb⟩; have hz := hb.size; have bk := blk_below (blk_new w _) hb; have c0 := blk_cell bk 0; have c1 := blk_cell bk 1; have c2 := blk_cell bk 2; have f0 := blk_frozen bk 0; have f1 := blk_frozen bk 1; have f2 := blk_frozen bk 2; simp only [List.getElem?_toArray, List.getElem?_cons_zero, List.getElem?_cons_succ] at c0 c1 c2)
  exact bodyPost_ret (results_ct rfl _ _ w.heap.size 31 #[.int .i64 2, .int .i64 (0), .slice none 0 0] (0, 0) _ rfl (blk_put (cs := #[.int .i64 2, .int .i64 (0), .slice none 0 0]) (blk_put (cs := #[.int .i64 2, .int .i64 0, .slice none 0 0]) (blk_put bk 0 _ rfl) 1 _ rfl) 2 _ rfl) Try.underlying31 rfl rfl) rfl ⟨rfl, below_set (below_set (below_set (below_step (below_alloc (Below.refl _ _) _) hb) (Nat.le_refl _)) (Nat.le_refl _)) (Nat.le_refl _)⟩

set_option maxHeartbeats 400000 in
theorem reckonR12f (a b : Int) (w : World) (hd : (a == b) = false) : Calls Try.prog 9 #[.int .i64 12, .int .i64 a, .int .i64 b] w fun e w' => e = .returned (.tuple #[.agg #[.int .i64 2, .int .i64 (0), .slice none 0 0], .bool true]) ∧ Below w.heap.size w w' := by
  go_enter Try.func9, Try.ntmps9
  go_wp2_with (go_at_call 18; refine (truth_calls' false _).mono ?_; rintro e w1 ⟨rfl, hb⟩; have hz := hb.size; have bk := blk_below (blk_new w _) hb; have c0 := blk_cell bk 0; have c1 := blk_cell bk 1; have c2 := blk_cell bk 2; have f0 := blk_frozen bk 0; have f1 := blk_frozen bk 1; have f2 := blk_frozen bk 2; simp only [List.getElem?_toArray, List.getElem?_cons_zero, List.getElem?_cons_succ] at c0 c1 c2)
  exact bodyPost_ret (results_ct rfl _ _ w.heap.size 31 #[.int .i64 2, .int .i64 (0), .slice none 0 0] (0, 0) _ rfl (blk_put (cs := #[.int .i64 2, .int .i64 (0), .slice none 0 0]) (blk_put (cs := #[.int .i64 2, .int .i64 0, .slice none 0 0]) (blk_put bk 0 _ rfl) 1 _ rfl) 2 _ rfl) Try.underlying31 rfl rfl) rfl ⟨rfl, below_set (below_set (below_set (below_step (below_alloc (Below.refl _ _) _) hb) (Nat.le_refl _)) (Nat.le_refl _)) (Nat.le_refl _)⟩

set_option maxHeartbeats 400000 in
theorem reckon9 (a b : Int) (w : World) (hb0 : (b == 0) = false) (hb1 : ¬ b = 0) : Calls Try.prog 8 #[.int .i64 9, .int .i64 a, .int .i64 b] w fun e w' => e = .returned (.tuple #[.agg #[.int .i64 1, .int .i64 (wrap64 (Int.tdiv a b)), .slice none 0 0], .bool true]) ∧ Below w.heap.size w w' := by
  go_enter Try.func8, Try.ntmps8
  go_wp2_with (go_at_call 15; refine (integer_calls _ _).mono ?_; rintro e w1 ⟨rfl, hb⟩; have hz := hb.size; have bk := blk_below (blk_new w _) hb; have c0 := blk_cell bk 0; have c1 := blk_cell bk 1; have c2 := blk_cell bk 2; have f0 := blk_frozen bk 0; have f1 := blk_frozen bk 1; have f2 := blk_frozen bk 2; simp only [List.getElem?_toArray, List.getElem?_cons_zero, List.getElem?_cons_succ] at c0 c1 c2)
  exact bodyPost_ret (results_ct rfl _ _ w.heap.size 31 #[.int .i64 1, .int .i64 (wrap64 (Int.tdiv a b)), .slice none 0 0] (0, 0) _ rfl (blk_put (cs := #[.int .i64 1, .int .i64 (wrap64 (Int.tdiv a b)), .slice none 0 0]) (blk_put (cs := #[.int .i64 1, .int .i64 0, .slice none 0 0]) (blk_put bk 0 _ rfl) 1 _ rfl) 2 _ rfl) Try.underlying31 rfl rfl) rfl ⟨rfl, below_set (below_set (below_set (below_step (below_alloc (Below.refl _ _) _) hb) (Nat.le_refl _)) (Nat.le_refl _)) (Nat.le_refl _)⟩

set_option maxHeartbeats 400000 in
theorem reckon10 (a b : Int) (w : World) (hb0 : (b == 0) = false) (hb1 : ¬ b = 0) : Calls Try.prog 8 #[.int .i64 10, .int .i64 a, .int .i64 b] w fun e w' => e = .returned (.tuple #[.agg #[.int .i64 1, .int .i64 (Int.tmod a b), .slice none 0 0], .bool true]) ∧ Below w.heap.size w w' := by
  go_enter Try.func8, Try.ntmps8
  go_wp2_with (go_at_call 15; refine (integer_calls _ _).mono ?_; rintro e w1 ⟨rfl, hb⟩; have hz := hb.size; have bk := blk_below (blk_new w _) hb; have c0 := blk_cell bk 0; have c1 := blk_cell bk 1; have c2 := blk_cell bk 2; have f0 := blk_frozen bk 0; have f1 := blk_frozen bk 1; have f2 := blk_frozen bk 2; simp only [List.getElem?_toArray, List.getElem?_cons_zero, List.getElem?_cons_succ] at c0 c1 c2)
  exact bodyPost_ret (results_ct rfl _ _ w.heap.size 31 #[.int .i64 1, .int .i64 (Int.tmod a b), .slice none 0 0] (0, 0) _ rfl (blk_put (cs := #[.int .i64 1, .int .i64 (Int.tmod a b), .slice none 0 0]) (blk_put (cs := #[.int .i64 1, .int .i64 0, .slice none 0 0]) (blk_put bk 0 _ rfl) 1 _ rfl) 2 _ rfl) Try.underlying31 rfl rfl) rfl ⟨rfl, below_set (below_set (below_set (below_step (below_alloc (Below.refl _ _) _) hb) (Nat.le_refl _)) (Nat.le_refl _)) (Nat.le_refl _)⟩

set_option maxHeartbeats 400000 in
theorem reckonZ9 (a b : Int) (w : World) (hb0 : (b == 0) = true) : Calls Try.prog 8 #[.int .i64 9, .int .i64 a, .int .i64 b] w fun e w' => e = .returned (.tuple #[.agg #[.int .i64 0, .int .i64 0, .slice none 0 0], .bool false]) ∧ Below w.heap.size w w' := by
  go_enter Try.func8, Try.ntmps8
  go_wp2
  exact bodyPost_ret (v := .tuple #[.agg #[.int .i64 0, .int .i64 0, .slice none 0 0], .bool false]) (by simp [results, Try.results8, go_sem]) rfl ⟨rfl, below_alloc (Below.refl _ _) _⟩

set_option maxHeartbeats 400000 in
theorem reckonZ10 (a b : Int) (w : World) (hb0 : (b == 0) = true) : Calls Try.prog 8 #[.int .i64 10, .int .i64 a, .int .i64 b] w fun e w' => e = .returned (.tuple #[.agg #[.int .i64 0, .int .i64 0, .slice none 0 0], .bool false]) ∧ Below w.heap.size w w' := by
  go_enter Try.func8, Try.ntmps8
  go_wp2
  exact bodyPost_ret (v := .tuple #[.agg #[.int .i64 0, .int .i64 0, .slice none 0 0], .bool false]) (by simp [results, Try.results8, go_sem]) rfl ⟨rfl, below_alloc (Below.refl _ _) _⟩

set_option maxHeartbeats 400000 in
theorem reckonO (op : Int) (a b : Int) (w : World) (h6 : (op == 6) = false) (k6 : (op != 6) = true) (h7 : (op == 7) = false) (k7 : (op != 7) = true) (h8 : (op == 8) = false) (k8 : (op != 8) = true) (h9 : (op == 9) = false) (k9 : (op != 9) = true) (h10 : (op == 10) = false) (k10 : (op != 10) = true) (h11 : (op == 11) = false) (k11 : (op != 11) = true) (h12 : (op == 12) = false) (k12 : (op != 12) = true) (hb0 : (b == 0) = false) : Calls Try.prog 8 #[.int .i64 op, .int .i64 a, .int .i64 b] w fun e w' => e = .returned (.tuple #[.agg #[.int .i64 0, .int .i64 0, .slice none 0 0], .bool false]) ∧ Below w.heap.size w w' := by
  go_enter Try.func8, Try.ntmps8
  go_wp2
  exact bodyPost_ret (v := .tuple #[.agg #[.int .i64 0, .int .i64 0, .slice none 0 0], .bool false]) (by simp [results, Try.results8, go_sem]) rfl ⟨rfl, below_alloc (Below.refl _ _) _⟩

set_option maxHeartbeats 400000 in
theorem reckonOZ (op : Int) (a b : Int) (w : World) (h6 : (op == 6) = false) (k6 : (op != 6) = true) (h7 : (op == 7) = false) (k7 : (op != 7) = true) (h8 : (op == 8) = false) (k8 : (op != 8) = true) (h9 : (op == 9) = false) (k9 : (op != 9) = true) (h10 : (op == 10) = false) (k10 : (op != 10) = true) (h11 : (op == 11) = false) (k11 : (op != 11) = true) (h12 : (op == 12) = false) (k12 : (op != 12) = true) (hb0 : (b == 0) = true) : Calls Try.prog 8 #[.int .i64 op, .int .i64 a, .int .i64 b] w fun e w' => e = .returned (.tuple #[.agg #[.int .i64 0, .int .i64 0, .slice none 0 0], .bool false]) ∧ Below w.heap.size w w' := by
  go_enter Try.func8, Try.ntmps8
  go_wp2
  exact bodyPost_ret (v := .tuple #[.agg #[.int .i64 0, .int .i64 0, .slice none 0 0], .bool false]) (by simp [results, Try.results8, go_sem]) rfl ⟨rfl, below_alloc (Below.refl _ _) _⟩

set_option maxHeartbeats 400000 in
theorem reckonRZ9 (a b : Int) (w : World) (hb0 : (b == 0) = true) : Calls Try.prog 9 #[.int .i64 9, .int .i64 a, .int .i64 b] w fun e w' => e = .returned (.tuple #[.agg #[.int .i64 0, .int .i64 0, .slice none 0 0], .bool false]) ∧ Below w.heap.size w w' := by
  go_enter Try.func9, Try.ntmps9
  go_wp2
  exact bodyPost_ret (v := .tuple #[.agg #[.int .i64 0, .int .i64 0, .slice none 0 0], .bool false]) (by simp [results, Try.results9, go_sem]) rfl ⟨rfl, below_alloc (Below.refl _ _) _⟩

set_option maxHeartbeats 400000 in
theorem reckonRZ10 (a b : Int) (w : World) (hb0 : (b == 0) = true) : Calls Try.prog 9 #[.int .i64 10, .int .i64 a, .int .i64 b] w fun e w' => e = .returned (.tuple #[.agg #[.int .i64 0, .int .i64 0, .slice none 0 0], .bool false]) ∧ Below w.heap.size w w' := by
  go_enter Try.func9, Try.ntmps9
  go_wp2
  exact bodyPost_ret (v := .tuple #[.agg #[.int .i64 0, .int .i64 0, .slice none 0 0], .bool false]) (by simp [results, Try.results9, go_sem]) rfl ⟨rfl, below_alloc (Below.refl _ _) _⟩

set_option maxHeartbeats 400000 in
theorem reckonRO (op : Int) (a b : Int) (w : World) (h6 : (op == 6) = false) (k6 : (op != 6) = true) (h7 : (op == 7) = false) (k7 : (op != 7) = true) (h8 : (op == 8) = false) (k8 : (op != 8) = true) (h9 : (op == 9) = false) (k9 : (op != 9) = true) (h10 : (op == 10) = false) (k10 : (op != 10) = true) (h11 : (op == 11) = false) (k11 : (op != 11) = true) (h12 : (op == 12) = false) (k12 : (op != 12) = true) : Calls Try.prog 9 #[.int .i64 op, .int .i64 a, .int .i64 b] w fun e w' => e = .returned (.tuple #[.agg #[.int .i64 0, .int .i64 0, .slice none 0 0], .bool false]) ∧ Below w.heap.size w w' := by
  go_enter Try.func9, Try.ntmps9
  go_wp2
  exact bodyPost_ret (v := .tuple #[.agg #[.int .i64 0, .int .i64 0, .slice none 0 0], .bool false]) (by simp [results, Try.results9, go_sem]) rfl ⟨rfl, below_alloc (Below.refl _ _) _⟩

set_option maxHeartbeats 400000 in
theorem reckonR9m (a b : Int) (w : World) (hb0 : (b == 0) = false) (hb2 : (b != -1) = false) : Calls Try.prog 9 #[.int .i64 9, .int .i64 a, .int .i64 b] w fun e w' => e = .returned (.tuple #[.agg #[.int .i64 1, .int .i64 (wrap64 (-a)), .slice none 0 0], .bool true]) ∧ Below w.heap.size w w' := by
  go_enter Try.func9, Try.ntmps9
  go_wp2_with (go_at_call 17; refine (integer_calls' _ _).mono ?_; rintro e w1 ⟨rfl, hb⟩; have hz := hb.size; have bk := blk_below (blk_new w _) hb; have c0 := blk_cell bk 0; have c1 := blk_cell bk 1; have c2 := blk_cell bk 2; have f0 := blk_frozen bk 0; have f1 := blk_frozen bk 1; have f2 := blk_frozen bk 2; simp only [List.getElem?_toArray, List.getElem?_cons_zero, List.getElem?_cons_succ] at c0 c1 c2)
  exact bodyPost_ret (results_ct rfl _ _ w.heap.size 31 #[.int .i64 1, .int .i64 (wrap64 (-a)), .slice none 0 0] (0, 0) _ rfl (blk_put (cs := #[.int .i64 1, .int .i64 (wrap64 (-a)), .slice none 0 0]) (blk_put (cs := #[.int .i64 1, .int .i64 0, .slice none 0 0]) (blk_put bk 0 _ rfl) 1 _ rfl) 2 _ rfl) Try.underlying31 rfl rfl) rfl ⟨rfl, below_set (below_set (below_set (below_step (below_alloc (Below.refl _ _) _) hb) (Nat.le_refl _)) (Nat.le_refl _)) (Nat.le_refl _)⟩

set_option maxHeartbeats 400000 in
theorem reckonR10m (a b : Int) (w : World) (hb0 : (b == 0) = false) (hb2 : (b != -1) = false) : Calls Try.prog 9 #[.int .i64 10, .int .i64 a, .int .i64 b] w fun e w' => e = .returned (.tuple #[.agg #[.int .i64 1, .int .i64 (0), .slice none 0 0], .bool true]) ∧ Below w.heap.size w w' := by
  go_enter Try.func9, Try.ntmps9
  go_wp2_with (go_at_call 17; refine (integer_calls' _ _).mono ?_; rintro e w1 ⟨rfl, hb⟩; have hz := hb.size; have bk := blk_below (blk_new w _) hb; have c0 := blk_cell bk 0; have c1 := blk_cell bk 1; have c2 := blk_cell bk 2; have f0 := blk_frozen bk 0; have f1 := blk_frozen bk 1; have f2 := blk_frozen bk 2; simp only [List.getElem?_toArray, List.getElem?_cons_zero, List.getElem?_cons_succ] at c0 c1 c2)
  exact bodyPost_ret (results_ct rfl _ _ w.heap.size 31 #[.int .i64 1, .int .i64 (0), .slice none 0 0] (0, 0) _ rfl (blk_put (cs := #[.int .i64 1, .int .i64 (0), .slice none 0 0]) (blk_put (cs := #[.int .i64 1, .int .i64 0, .slice none 0 0]) (blk_put bk 0 _ rfl) 1 _ rfl) 2 _ rfl) Try.underlying31 rfl rfl) rfl ⟨rfl, below_set (below_set (below_set (below_step (below_alloc (Below.refl _ _) _) hb) (Nat.le_refl _)) (Nat.le_refl _)) (Nat.le_refl _)⟩

set_option maxHeartbeats 400000 in
theorem reckonR9 (a b : Int) (w : World) (hb0 : (b == 0) = false) (hb1 : ¬ b = 0) (hb2 : (b != -1) = true) : Calls Try.prog 9 #[.int .i64 9, .int .i64 a, .int .i64 b] w fun e w' => e = .returned (.tuple #[.agg #[.int .i64 1, .int .i64 (wrap64 (Int.tdiv a b)), .slice none 0 0], .bool true]) ∧ Below w.heap.size w w' := by
  go_enter Try.func9, Try.ntmps9
  go_wp2_with (go_at_call 17; refine (integer_calls' _ _).mono ?_; rintro e w1 ⟨rfl, hb⟩; have hz := hb.size; have bk := blk_below (blk_new w _) hb; have c0 := blk_cell bk 0; have c1 := blk_cell bk 1; have c2 := blk_cell bk 2; have f0 := blk_frozen bk 0; have f1 := blk_frozen bk 1; have f2 := blk_frozen bk 2; simp only [List.getElem?_toArray, List.getElem?_cons_zero, List.getElem?_cons_succ] at c0 c1 c2)
  exact bodyPost_ret (results_ct rfl _ _ w.heap.size 31 #[.int .i64 1, .int .i64 (wrap64 (Int.tdiv a b)), .slice none 0 0] (0, 0) _ rfl (blk_put (cs := #[.int .i64 1, .int .i64 (wrap64 (Int.tdiv a b)), .slice none 0 0]) (blk_put (cs := #[.int .i64 1, .int .i64 0, .slice none 0 0]) (blk_put bk 0 _ rfl) 1 _ rfl) 2 _ rfl) Try.underlying31 rfl rfl) rfl ⟨rfl, below_set (below_set (below_set (below_step (below_alloc (Below.refl _ _) _) hb) (Nat.le_refl _)) (Nat.le_refl _)) (Nat.le_refl _)⟩

set_option maxHeartbeats 400000 in
theorem reckonR10 (a b : Int) (w : World) (hb0 : (b == 0) = false) (hb1 : ¬ b = 0) (hb2 : (b != -1) = true) : Calls Try.prog 9 #[.int .i64 10, .int .i64 a, .int .i64 b] w fun e w' => e = .returned (.tuple #[.agg #[.int .i64 1, .int .i64 (wrap64 (a - wrap64 (wrap64 (Int.tdiv a b) * b))), .slice none 0 0], .bool true]) ∧ Below w.heap.size w w' := by
  go_enter Try.func9, Try.ntmps9
  go_wp2_with (go_at_call 17; refine (integer_calls' _ _).mono ?_; rintro e w1 ⟨rfl, hb⟩; have hz := hb.size; have bk := blk_below (blk_new w _) hb; have c0 := blk_cell bk 0; have c1 := blk_cell bk 1; have c2 := blk_cell bk 2; have f0 := blk_frozen bk 0; have f1 := blk_frozen bk 1; have f2 := blk_frozen bk 2; simp only [List.getElem?_toArray, List.getElem?_cons_zero, List.getElem?_cons_succ] at c0 c1 c2)
  exact bodyPost_ret (results_ct rfl _ _ w.heap.size 31 #[.int .i64 1, .int .i64 (wrap64 (a - wrap64 (wrap64 (Int.tdiv a b) * b))), .slice none 0 0] (0, 0) _ rfl (blk_put (cs := #[.int .i64 1, .int .i64 (wrap64 (a - wrap64 (wrap64 (Int.tdiv a b) * b))), .slice none 0 0]) (blk_put (cs := #[.int .i64 1, .int .i64 0, .slice none 0 0]) (blk_put bk 0 _ rfl) 1 _ rfl) 2 _ rfl) Try.underlying31 rfl rfl) rfl ⟨rfl, below_set (below_set (below_set (below_step (below_alloc (Below.refl _ _) _) hb) (Nat.le_refl _)) (Nat.le_refl _)) (Nat.le_refl _)⟩


theorem same_leaf (k n : Int) (w : World) : Calls Try.prog 10 #[.agg #[.int .i64 k, .int .i64 n, .slice none 0 0], .agg #[.int .i64 k, .int .i64 n, .slice none 0 0]] w fun e w' => e = .returned (.bool true) ∧ Below w.heap.size w w' := by
  have hk : (k != k) = false := by simp
  have hn : (n != n) = false := by simp
  go_enter Try.func10, Try.ntmps10
  go_wp2
  refine wp_loop_rounds 1 ?_
  rw [rounds_succ]
  go_wp2
  go_ret
  exact ⟨rfl, below_alloc (below_alloc (Below.refl _ _) _) _⟩
theorem numbers_leaf (w : World) : Calls Try.prog 14 #[.agg #[.int .i64 6, .int .i64 0, .int .i64 0, .string ⟨#[]⟩, .string ⟨#[]⟩, .int .i64 0, .int .i64 0, .slice none 0 0, .int .i64 0, .int .i64 0, .int .i64 0, .int .i64 0, .slice none 0 0, .int .i64 0, .int .i64 0, .slice none 0 0, .int .i64 0]] w fun e w' => e = .returned (.int .i64 1) ∧ Below w.heap.size w w' := by
  go_enter Try.func14, Try.ntmps14
  go_wp2
  refine wp_loop_rounds 1 ?_
  rw [rounds_succ]
  go_wp2
  go_ret
  exact ⟨rfl, below_alloc (Below.refl _ _) _⟩
theorem reckon23 (w : World) : Calls Try.prog 8 #[.int .i64 6, .int .i64 2, .int .i64 3] w fun e w' => e = .returned (.tuple #[.agg #[.int .i64 1, .int .i64 5, .slice none 0 0], .bool true]) ∧ Below w.heap.size w w' := by
  have h := reckon6 2 3 w
  rw [show wrap64 (2 + 3) = 5 from by unfold wrap64; omega] at h
  exact h
theorem awake_calls (w : World) : Calls Try.prog 7 #[] w fun e w' => e = .returned (.bool true) ∧ Below w.heap.size w w' := by
  go_enter Try.func7, Try.ntmps7
  go_wp2_with (first | (go_at_call 8; refine (reckon23 _).mono ?_; rintro e w1 ⟨rfl, hb⟩) | (go_at_call 14; refine (numbers_leaf _).mono ?_; rintro e w2 ⟨rfl, hb2⟩))
  go_ret
  exact ⟨rfl, below_step (below_alloc hb _) hb2⟩
/-- What the two come to, once for all: a value's two numbers, and whether there is one. -/
theorem law_calls (op a b k n : Int) (t : Bool) (h1 : ∀ w, Calls Try.prog 8 #[.int .i64 op, .int .i64 a, .int .i64 b] w fun e w' => e = .returned (.tuple #[.agg #[.int .i64 k, .int .i64 n, .slice none 0 0], .bool t]) ∧ Below w.heap.size w w')
    (h2 : ∀ w, Calls Try.prog 9 #[.int .i64 op, .int .i64 a, .int .i64 b] w fun e w' => e = .returned (.tuple #[.agg #[.int .i64 k, .int .i64 n, .slice none 0 0], .bool t]) ∧ Below w.heap.size w w') (w : World) :
    Calls Try.prog 4 #[.int .i64 op, .int .i64 a, .int .i64 b] w fun e w' => e = .returned (.bool true) ∧ Below w.heap.size w w' := by
  have H1 := Lib.hid h1
  have H2 := Lib.hid h2
  clear h1 h2
  have ht : (t == t) = true := by simp
  go_enter Try.func4, Try.ntmps4
  go_wp2_with (first | (go_at_call 7; refine (awake_calls _).mono ?_; rintro e w1 ⟨rfl, hb1⟩) | (go_at_call 8; refine (H1.out _).mono ?_; rintro e w2 ⟨rfl, hb2⟩) | (go_at_call 9; refine (H2.out _).mono ?_; rintro e w3 ⟨rfl, hb3⟩; have hz := hb3.size; have bk := blk_below (blk_new w2 _) hb3; have c0 := blk_cell bk 0; have c1 := blk_cell bk 1; have c2 := blk_cell bk 2; simp only [List.getElem?_toArray, List.getElem?_cons_zero, List.getElem?_cons_succ] at c0 c1 c2; have hlt : w2.heap.size < w3.heap.size := by simp at hz; omega) | (go_at_call 10; refine (same_leaf k n _).mono ?_; rintro e w4 ⟨rfl, hb4⟩))
  go_ret
  exact ⟨rfl, below_step (below_alloc (below_step (below_alloc (below_step hb1 hb2) _) hb3) _) hb4⟩
theorem quo_m1 (a : Int) : wrap64 (Int.tdiv a (-1)) = wrap64 (-a) := by rw [Int.tdiv_neg, Int.tdiv_one]
theorem rem_m1 (a : Int) : Int.tmod a (-1) = 0 := by rw [Int.tmod_neg, Int.tmod_one]
theorem wrap64_id {x : Int} (h : -9223372036854775808 ≤ x ∧ x ≤ 9223372036854775807) : wrap64 x = x := by unfold wrap64; omega
theorem tmod_bd (a b : Int) (ha : -9223372036854775808 ≤ a ∧ a ≤ 9223372036854775807) : -9223372036854775808 ≤ a - Int.tmod a b ∧ a - Int.tmod a b ≤ 9223372036854775807 := by
  rcases Int.le_total 0 a with h | h
  · have h1 := Int.tmod_nonneg b h
    have h2 : (Int.tmod a b).natAbs ≤ a.natAbs := by rw [Int.natAbs_tmod]; exact Nat.mod_le _ _
    omega
  · have h1 := Int.tmod_nonneg b (show 0 ≤ -a by omega)
    rw [Int.neg_tmod] at h1
    have h2 : (Int.tmod a b).natAbs ≤ a.natAbs := by rw [Int.natAbs_tmod]; exact Nat.mod_le _ _
    omega
theorem tdiv_bd (a b : Int) (ha : -9223372036854775808 ≤ a ∧ a ≤ 9223372036854775807) (h0 : b ≠ 0) (h1 : b ≠ -1) : -9223372036854775808 ≤ Int.tdiv a b ∧ Int.tdiv a b ≤ 9223372036854775807 := by
  by_cases hb : b = 1
  · subst hb; rw [Int.tdiv_one]; exact ha
  · have h2 : (Int.tdiv a b).natAbs = a.natAbs / b.natAbs := Int.natAbs_tdiv a b
    have h3 : a.natAbs / b.natAbs ≤ a.natAbs / 2 := Nat.div_le_div_left (by omega) (by omega)
    omega
theorem rem_of (a b : Int) (ha : -9223372036854775808 ≤ a ∧ a ≤ 9223372036854775807) (h0 : b ≠ 0) (h1 : b ≠ -1) : wrap64 (a - wrap64 (wrap64 (Int.tdiv a b) * b)) = Int.tmod a b := by
  have hq := tdiv_bd a b ha h0 h1
  have hm := tmod_bd a b ha
  have he := Int.mul_tdiv_add_tmod a b
  have hc : Int.tdiv a b * b = a - Int.tmod a b := by rw [Int.mul_comm]; omega
  rw [wrap64_id hq, hc, wrap64_id hm]
  have hlt : (Int.tmod a b).natAbs ≤ a.natAbs := by rw [Int.natAbs_tmod]; exact Nat.mod_le _ _
  rw [show a - (a - Int.tmod a b) = Int.tmod a b from by omega]
  refine wrap64_id ?_
  rcases Int.le_total 0 a with h | h
  · omega
  · have h1 := Int.tmod_nonneg b (show 0 ≤ -a by omega)
    rw [Int.neg_tmod] at h1
    omega
theorem law_any (op a b : Int) (ha : (Lit.int .i64 a).wf = true) (w : World) : Calls Try.prog 4 #[.int .i64 op, .int .i64 a, .int .i64 b] w fun e w' => e = .returned (.bool true) ∧ Below w.heap.size w w' := by
  have hA := wf_bounds ha
  by_cases h6 : op = 6
  · subst h6; exact law_calls _ _ _ _ _ _ (reckon6 a b) (reckonR6 a b) w
  by_cases h7 : op = 7
  · subst h7; exact law_calls _ _ _ _ _ _ (reckon7 a b) (reckonR7 a b) w
  by_cases h8 : op = 8
  · subst h8; exact law_calls _ _ _ _ _ _ (reckon8 a b) (reckonR8 a b) w
  by_cases h11 : op = 11
  · subst h11
    by_cases h : a < b
    · exact law_calls _ _ _ _ _ _ (fun w => reckon11t a b w (decide_eq_true h)) (fun w => reckonR11t a b w (decide_eq_true h)) w
    · exact law_calls _ _ _ _ _ _ (fun w => reckon11f a b w (decide_eq_false h)) (fun w => reckonR11f a b w (decide_eq_false h)) w
  by_cases h12 : op = 12
  · subst h12
    by_cases h : a = b
    · exact law_calls _ _ _ _ _ _ (fun w => reckon12t a b w (beq_iff_eq.2 h)) (fun w => reckonR12t a b w (beq_iff_eq.2 h)) w
    · exact law_calls _ _ _ _ _ _ (fun w => reckon12f a b w (beq_eq_false_iff_ne.2 h)) (fun w => reckonR12f a b w (beq_eq_false_iff_ne.2 h)) w
  by_cases h9 : op = 9
  · subst h9
    by_cases h : b = 0
    · exact law_calls _ _ _ _ _ _ (fun w => reckonZ9 a b w (beq_iff_eq.2 h)) (fun w => reckonRZ9 a b w (beq_iff_eq.2 h)) w
    · by_cases hm : b = -1
      · refine law_calls _ _ _ _ (wrap64 (-a)) true (fun w => ?_) (fun w => reckonR9m a b w (beq_eq_false_iff_ne.2 h) (by simp [hm])) w
        have := reckon9 a b w (beq_eq_false_iff_ne.2 h) h
        rw [show wrap64 (Int.tdiv a b) = wrap64 (-a) from by rw [hm]; exact quo_m1 a] at this
        exact this
      · exact law_calls _ _ _ _ _ _ (fun w => reckon9 a b w (beq_eq_false_iff_ne.2 h) h) (fun w => reckonR9 a b w (beq_eq_false_iff_ne.2 h) h (bne_iff_ne.2 hm)) w
  by_cases h10 : op = 10
  · subst h10
    by_cases h : b = 0
    · exact law_calls _ _ _ _ _ _ (fun w => reckonZ10 a b w (beq_iff_eq.2 h)) (fun w => reckonRZ10 a b w (beq_iff_eq.2 h)) w
    · by_cases hm : b = -1
      · refine law_calls _ _ _ _ 0 true (fun w => ?_) (fun w => reckonR10m a b w (beq_eq_false_iff_ne.2 h) (by simp [hm])) w
        have := reckon10 a b w (beq_eq_false_iff_ne.2 h) h
        rw [show Int.tmod a b = 0 from by rw [hm]; exact rem_m1 a] at this
        exact this
      · refine law_calls _ _ _ _ (Int.tmod a b) true (fun w => reckon10 a b w (beq_eq_false_iff_ne.2 h) h) (fun w => ?_) w
        have := reckonR10 a b w (beq_eq_false_iff_ne.2 h) h (bne_iff_ne.2 hm)
        rw [rem_of a b hA h hm] at this
        exact this
  have f6 := beq_eq_false_iff_ne.2 h6
  have f7 := beq_eq_false_iff_ne.2 h7
  have f8 := beq_eq_false_iff_ne.2 h8
  have f9 := beq_eq_false_iff_ne.2 h9
  have f10 := beq_eq_false_iff_ne.2 h10
  have f11 := beq_eq_false_iff_ne.2 h11
  have f12 := beq_eq_false_iff_ne.2 h12
  have n6 := bne_iff_ne.2 h6
  have n7 := bne_iff_ne.2 h7
  have n8 := bne_iff_ne.2 h8
  have n9 := bne_iff_ne.2 h9
  have n10 := bne_iff_ne.2 h10
  have n11 := bne_iff_ne.2 h11
  have n12 := bne_iff_ne.2 h12
  refine law_calls _ _ _ _ _ _ (fun w => ?_) (fun w => reckonRO op a b w f6 n6 f7 n7 f8 n8 f9 n9 f10 n10 f11 n11 f12 n12) w
  by_cases h : b = 0
  · exact reckonOZ op a b w f6 n6 f7 n7 f8 n8 f9 n9 f10 n10 f11 n11 f12 n12 (beq_iff_eq.2 h)
  · exact reckonO op a b w f6 n6 f7 n7 f8 n8 f9 n9 f10 n10 f11 n11 f12 n12 (beq_eq_false_iff_ne.2 h)

end Go.Proofs.Ytaoagkdmcknlfaa.Eval
