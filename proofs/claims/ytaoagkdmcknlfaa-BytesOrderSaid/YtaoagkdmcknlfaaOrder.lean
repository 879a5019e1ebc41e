/- Statement BytesOrderSaid, the walk: of two shorts the less one's bytes are the less, the first byte counting first. No further condition. -/
import Derived.Test.YtaoagkdmcknlfaaBytes
namespace Go.Proofs.Ytaoagkdmcknlfaa.Order
set_option linter.unusedVariables false
open Go.RowKit Go.Proofs.YtaoagkdmcknlfaaW.PrintWords Go.Proofs.Ytaoagkdmcknlfaa.Aux Go.Proofs.Ytaoagkdmcknlfaa.Bytes
theorem be_two (n : Int) : be n 2 = [n / 256 % 256, n % 256] := by simp [be, List.range_succ]
theorem short_nil (n : Int) (w : World) (hn0 : 0 ≤ n) (hn1 : n ≤ 65535) :
    Calls Try.prog 6 #[.slice none 0 0, .int .i64 n] w fun e w' => ∃ g c, e = .returned (.tuple #[.slice (some ⟨g, 0, none⟩) 2 c, .int .i64 0]) ∧ w'.cell? ⟨g, 0, none⟩ = some (.int .u8 (n / 256 % 256)) ∧ w'.cell? ⟨g, 1, none⟩ = some (.int .u8 (n % 256)) ∧ g < w'.heap.size ∧ (Kd.int .u8).C w' (some ⟨g, 0, none⟩) 2 [n / 256 % 256, n % 256] ∧ Below w.heap.size w w' := by
  refine (short_calls [] none 0 n w (Kd.C_nil _ _) (Nat.le_refl _) (by simp) hn0 hn1).mono ?_
  rintro e w1 ⟨v, rfl, hR, hb⟩
  rw [be_two, List.nil_append] at hR
  obtain ⟨g, c, rfl, h0, h1, h2⟩ := two_cells hR
  obtain ⟨A, c', he, _, hC⟩ := Kd.R_reads hR
  injection he with he1 he2 he3
  subst he1
  exact ⟨g, c, rfl, h0, h1, h2, hC, hb⟩
set_option maxHeartbeats 800000 in
theorem awake_calls (w : World) : Calls Try.prog 5 #[] w fun e w' => e = .returned (.bool true) ∧ Below w.heap.size w w' := by
  go_enter Try.func5, Try.ntmps5
  go_wp2_with (first | (go_at_call 6; refine (short_nil 258 _ (by omega) (by omega)).mono ?_; rintro e w1 ⟨g, c, rfl, h0, h1, hg, hC, hb⟩; simp only [show (258 : Int) / 256 % 256 = 1 from rfl, show (258 : Int) % 256 = 2 from rfl] at h0 h1 hC; have HC := Lib.hid hC; have HB := Lib.hid hb; clear hC hb) | (go_at_call 11; refine (read_calls [1, 2] _ _ _ HC.out (by simp)).mono ?_; rintro e w2 ⟨r, rfl, hr, hS, hb2⟩; have HS := Lib.hid hS; have HB2 := Lib.hid hb2; clear hS hb2) | (go_at_call 12; refine (rshort_calls [1, 2] false _ _ HS.out (by simp) (by simp)).mono ?_; rintro e w3 ⟨rfl, hS3, hg3⟩; have h258 : nx [1, 2] false 2 = 258 := rfl; rw [h258]; clear hS3))
  go_ret
  exact ⟨rfl, below_of_grown (below_step HB.out HB2.out) hg3 (Nat.le_trans HB.out.size hr)⟩
theorem u16_range {a : Int} (h : (Lit.int .u16 a).wf = true) : 0 ≤ a ∧ a ≤ 65535 := by
  have := h
  simp [Lit.wf, IntKind.min, IntKind.max, IntKind.bits, IntKind.signed] at this
  omega
set_option maxHeartbeats 1600000 in
theorem law_calls (a b : Int) (w : World) (ha : 0 ≤ a ∧ a ≤ 65535) (hb : 0 ≤ b ∧ b ≤ 65535) : Calls Try.prog 3 #[.int .u16 a, .int .u16 b] w fun e w' => e = .returned (.bool true) ∧ Below w.heap.size w w' := by
  obtain ⟨ha0, ha1⟩ := ha
  obtain ⟨hb0, hb1⟩ := hb
  go_enter Try.func3, Try.ntmps3
  go_wp2_with fail
  refine (awake_calls _).mono ?_
  rintro e w0 ⟨rfl, hb0'⟩
  have HB0 := Lib.hid hb0'
  clear hb0'
  go_wp2_with fail
  refine (short_nil a _ ha0 ha1).mono ?_
  rintro e w1 ⟨g, c, rfl, p0, p1, hg, hC, hb⟩
  have HB1 := Lib.hid hb
  clear hb hC
  go_wp2_with fail
  refine (short_nil b _ hb0 hb1).mono ?_
  rintro e w2 ⟨g2, c2, rfl, q0, q1, hg2, hC, hb⟩
  have HB2 := Lib.hid hb
  have p0' := pw_cell_below HB2.out p0
  have p1' := pw_cell_below HB2.out p1
  clear hb hC p0 p1 hg
  have key : (decide (a < b) == (decide (a / 256 % 256 < b / 256 % 256) || (decide (a / 256 % 256 = b / 256 % 256) && decide (a % 256 < b % 256)))) = true := by
    rw [beq_iff_eq, Bool.eq_iff_iff]
    simp only [decide_eq_true_eq, Bool.or_eq_true, Bool.and_eq_true]
    omega
  have hlt : decide (a < b) = (decide (a / 256 % 256 < b / 256 % 256) || (decide (a / 256 % 256 = b / 256 % 256) && decide (a % 256 < b % 256))) := beq_iff_eq.1 key
  have HLT := Lib.hid hlt
  clear key hlt
  have g0 : 0 ≤ a / 256 % 256 := by omega
  generalize a / 256 % 256 = x0 at *
  generalize a % 256 = x1 at *
  generalize b / 256 % 256 = y0 at *
  generalize b % 256 = y1 at *
  by_cases h1 : x0 < y0
  · have d1 : decide (x0 < y0) = true := decide_eq_true h1
    have d0 : decide (a < b) = true := by rw [HLT.out, d1]; rfl
    go_wp2_with fail
    go_quiet (fail)
    go_wp2
    go_ret
    exact ⟨rfl, pw_below_drewN (below_step (below_step HB0.out HB1.out) HB2.out) _⟩
  · have d1 : decide (x0 < y0) = false := decide_eq_false h1
    by_cases h2 : x0 = y0
    · subst h2
      have d2 : (x0 == x0) = true := by simp
      by_cases h3 : x1 < y1
      · have d3 : decide (x1 < y1) = true := decide_eq_true h3
        have d0 : decide (a < b) = true := by rw [HLT.out, d1, d3]; simp
        go_wp2_with fail
        go_quiet (fail)
        go_wp2
        go_ret
        exact ⟨rfl, pw_below_drewN (below_step (below_step HB0.out HB1.out) HB2.out) _⟩
      · have d3 : decide (x1 < y1) = false := decide_eq_false h3
        have d0 : decide (a < b) = false := by rw [HLT.out, d1, d3]; simp
        go_wp2_with fail
        go_quiet (fail)
        go_wp2
        go_ret
        exact ⟨rfl, pw_below_drewN (below_step (below_step HB0.out HB1.out) HB2.out) _⟩
    · have d2 : (x0 == y0) = false := beq_eq_false_iff_ne.2 h2
      have d0 : decide (a < b) = false := by rw [HLT.out, d1, decide_eq_false h2]; rfl
      go_wp2_with fail
      go_quiet (fail)
      go_wp2
      go_ret
      exact ⟨rfl, pw_below_drewN (below_step (below_step HB0.out HB1.out) HB2.out) _⟩
end Go.Proofs.Ytaoagkdmcknlfaa.Order
