/- The program's lattice package (bound, Formed, Leq, Join, Meet and what they call), each at every lattice: what it answers, in plain words. Condition: the two tables of unicode/utf8 are laid. -/
import Derived.Test.YtokogcfcaehifaaDoorLatName
import Derived.Deep.LoopGhost
import Derived.Outline
namespace Go.Proofs.YtokogcfcaehifaaDoor.LatWalk
set_option linter.unusedVariables false
open Go.RowKit Go.Proofs.YtokogcfcaehifaaDoorW.PrintWords Go.Proofs.YtokogcfcaehifaaDoor.Aux Go.Proofs.YtokogcfcaehifaaDoor.LatSpec
/-- A lattice's two rows, as they are read. -/
def LR (w : World) (l : Lat) (A : Option Addr) (c : Nat) (B : Option Addr) (d : Nat) : Prop :=
  l.names.length ≤ c ∧ l.order.length ≤ d ∧ Kd.string.C w A l.names.length l.names ∧ (Kd.slice 4 Kd.bool).C w B l.order.length l.order
theorem LR.below {w w1 : World} {l : Lat} {A B : Option Addr} {c d : Nat} (h : LR w l A c B d) (hb : Below w.heap.size w w1) : LR w1 l A c B d := ⟨h.1, h.2.1, Kd.C_below h.2.2.1 hb, Kd.C_below h.2.2.2 hb⟩
/-- Order[x][y], where there is such a place. -/
theorem LR.at_ {w : World} {l : Lat} {A B : Option Addr} {c d : Nat} (h : LR w l A c B d) {x y : Nat} (hx : x < l.order.length) (hy : y < (l.order.getD x []).length) :
    ∃ ad A' c' ad', B = some ad ∧ w.cell? (ad.add x) = some (.slice A' (l.order.getD x []).length c') ∧ (l.order.getD x []).length ≤ c' ∧ A' = some ad' ∧ w.cell? (ad'.add y) = some (.bool (ord l x y)) := by
  obtain ⟨ad, A', c', e1, h1, h2, h3⟩ := C_slice_get h.2.2.2 hx
  obtain ⟨ad', e2, h4⟩ := C_bool_get h3 hy
  exact ⟨ad, A', c', ad', e1, h1, h2, e2, h4⟩
set_option maxHeartbeats 800000 in
theorem under_calls (l : Lat) (A B : Option Addr) (c d : Nat) (g1 g2 : Nat) (ab : Bool) (x y : Nat) (w : World) (h : LR w l A c B d) (h1 : w.cell? ⟨g1, 0, none⟩ = some (.bool ab)) (h2 : w.cell? ⟨g2, 1, none⟩ = some (.slice B l.order.length d))
    (hx : x < l.order.length) (hy : y < l.order.length) (hxy : y < (l.order.getD x []).length) (hyx : x < (l.order.getD y []).length) (hn : l.order.length ≤ 1000) :
    Calls Tryd.prog 53 #[.int .i64 x, .int .i64 y, .pointer (some ⟨g1, 0, none⟩), .pointer (some ⟨g2, 0, none⟩)] w fun e w' => e = .returned (.bool (und l ab x y)) ∧ w = w' := by
  obtain ⟨ad, A1, c1, ad1, e1, a1, a2, e2, a3⟩ := h.at_ hx hxy
  obtain ⟨ad2, A2, c2, ad3, e3, b1, b2, e4, b3⟩ := h.at_ hy hyx
  subst e1 e2 e4
  obtain rfl : ad = ad2 := by injection e3
  clear e3 h
  generalize (l.order.getD x []).length = nx at *
  generalize (l.order.getD y []).length = ny at *
  generalize l.order.length = m at *
  cases ab with
  | true =>
    generalize hv : ord l x y = v at *
    have HV := Lib.hid hv
    clear hv
    go_enter Tryd.func53, Tryd.ntmps53
    go_wp2
    go_ret
    exact ⟨ret_bool HV.out.symm, rfl⟩
  | false =>
    generalize hv : ord l y x = v at *
    have HV := Lib.hid hv
    clear hv
    go_enter Tryd.func53, Tryd.ntmps53
    go_wp2
    go_ret
    exact ⟨ret_bool HV.out.symm, rfl⟩
/-- The order is a square of as many rows as there are names, few enough. -/
def Sq (l : Lat) : Prop := l.order.length = l.names.length ∧ (∀ x, x < l.names.length → (l.order.getD x []).length = l.names.length) ∧ l.names.length ≤ 1000
set_option maxRecDepth 100000 in
set_option maxHeartbeats 1600000 in
theorem bound_calls (l : Lat) (A B : Option Addr) (c d : Nat) (ab : Bool) (a b : Nat) (w : World) (h : LR w l A c B d) (hq : Sq l) (ha : a < l.names.length) (hb : b < l.names.length) :
    Calls Tryd.prog 36 #[.agg #[.slice A l.names.length c, .slice B l.order.length d], .int .i64 a, .int .i64 b, .bool ab] w fun e w' => e = .returned (.int .i64 (boundN l ab a b)) ∧ Below w.heap.size w w' := by
  have H := Lib.hid h
  have HQ := Lib.hid hq
  have hU : ∀ (x y : Nat) (W : World), x < l.names.length → y < l.names.length → Below w.heap.size w W → W.cell? ⟨w.heap.size + 1, 0, none⟩ = some (.bool ab) → W.cell? ⟨w.heap.size, 1, none⟩ = some (.slice B l.order.length d) →
      Calls Tryd.prog 53 #[.int .i64 x, .int .i64 y, .pointer (some ⟨w.heap.size + 1, 0, none⟩), .pointer (some ⟨w.heap.size, 0, none⟩)] W fun e w' => e = .returned (.bool (und l ab x y)) ∧ W = w' := by
    intro x y W hx hy hB h1 h2
    obtain ⟨q1, q2, q3⟩ := HQ.out
    exact under_calls l A B c d _ _ ab x y W (H.out.below hB) h1 h2 (by omega) (by omega) (by rw [q2 x hx]; exact hy) (by rw [q2 y hy]; exact hx) (by omega)
  have HU := Lib.hid hU
  have hn : l.names.length ≤ 1000 := hq.2.2
  clear h hq hU
  go_enter Tryd.func36, Tryd.ntmps36
  go_wp2_with fail
  have c1 : ((w.alloc (.cells #[.slice A l.names.length c, .slice B l.order.length d] 25)).alloc (.cells #[.bool ab] 4)).cell? ⟨w.heap.size + 1, 0, none⟩ = some (.bool ab) := by simp
  have c2 : ((w.alloc (.cells #[.slice A l.names.length c, .slice B l.order.length d] 25)).alloc (.cells #[.bool ab] 4)).cell? ⟨w.heap.size, 1, none⟩ = some (.slice B l.order.length d) := by simp
  have hb2 := below_alloc (below_alloc (Below.refl w.heap.size w) (.cells #[.slice A l.names.length c, .slice B l.order.length d] 25)) (.cells #[.bool ab] 4)
  generalize ((w.alloc (.cells #[.slice A l.names.length c, .slice B l.order.length d] 25)).alloc (.cells #[.bool ab] 4)) = w2 at c1 c2 hb2 ⊢
  have HB2 := Lib.hid hb2
  clear hb2
  go_loopg [19] (l.names.length) (fun g i wr => ∃ k : Nat, i = .int .i64 k ∧ k ≤ l.names.length ∧ g = l.names.length - k ∧ w2 = wr ∧ Hid (∀ j, j < k → isB l ab a b j = false))
  case atStart => exact ⟨0, rfl, Nat.zero_le _, rfl, rfl, Lib.hid (fun j hj => absurd hj (by omega))⟩
  case round =>
    obtain ⟨k, rfl, hk, rfl, rfl, hall⟩ := hrel
    by_cases hlt : k < l.names.length
    · cases hu1 : und l ab a k with
      | false =>
        have hno : ∀ j, j < k + 1 → isB l ab a b j = false := fun j hj => by
          rcases Nat.lt_or_ge j k with h | h
          · exact hall.out j h
          · obtain rfl : j = k := by omega
            simp [isB, hu1]
        have HNO := Lib.hid hno
        clear hno
        go_wp2_with (go_at_call 53; refine (HU.out _ _ _ (by omega) (by omega) HB2.out c1 c2).mono ?_; rintro e wx ⟨rfl, rfl⟩)
        go_roundg (l.names.length - (k + 1))
        case measure => omega
        case rel => exact ⟨k + 1, by go_num, by omega, rfl, rfl, HNO⟩
      | true =>
        cases hu2 : und l ab b k with
        | false =>
          have hno : ∀ j, j < k + 1 → isB l ab a b j = false := fun j hj => by
            rcases Nat.lt_or_ge j k with h | h
            · exact hall.out j h
            · obtain rfl : j = k := by omega
              simp [isB, hu2]
          have HNO := Lib.hid hno
          clear hno
          go_wp2_with (go_at_call 53; refine (HU.out _ _ _ (by omega) (by omega) HB2.out c1 c2).mono ?_; rintro e wx ⟨rfl, rfl⟩)
          go_roundg (l.names.length - (k + 1))
          case measure => omega
          case rel => exact ⟨k + 1, by go_num, by omega, rfl, rfl, HNO⟩
        | true =>
          have HU1 := Lib.hid hu1
          have HU2 := Lib.hid hu2
          go_wp2_with (go_at_call 53; refine (HU.out _ _ _ (by omega) (by omega) HB2.out c1 c2).mono ?_; rintro e wx ⟨rfl, rfl⟩)
          clear hu1 hu2
          go_loopg [12, 35] (l.names.length) (fun g t i wr => ∃ m : Nat, i = .int .i64 m ∧ m ≤ l.names.length ∧ g = l.names.length - m ∧ w2 = wr ∧ t = .bool (lst l ab a b k m))
          case atStart => exact ⟨0, rfl, Nat.zero_le _, rfl, rfl, rfl⟩
          case round =>
            obtain ⟨m, rfl, hm, rfl, rfl, rfl⟩ := hrel
            by_cases hltm : m < l.names.length
            · have hs := Lib.hid (lst_succ l ab a b k m)
              cases hv : lst l ab a b k m with
              | false =>
                go_wp2_with (go_at_call 53; refine (HU.out _ _ _ (by omega) (by omega) HB2.out c1 c2).mono ?_; rintro e wx ⟨rfl, rfl⟩)
                go_roundg (l.names.length - (m + 1))
                case measure => omega
                case rel => exact ⟨m + 1, by go_num, by omega, rfl, rfl, by rw [hs.out]; simp [*]⟩
              | true =>
                cases hm1 : und l ab a m with
                | false =>
                  go_wp2_with (go_at_call 53; refine (HU.out _ _ _ (by omega) (by omega) HB2.out c1 c2).mono ?_; rintro e wx ⟨rfl, rfl⟩)
                  go_roundg (l.names.length - (m + 1))
                  case measure => omega
                  case rel => exact ⟨m + 1, by go_num, by omega, rfl, rfl, by rw [hs.out]; simp [*]⟩
                | true =>
                  cases hm2 : und l ab b m with
                  | false =>
                    go_wp2_with (go_at_call 53; refine (HU.out _ _ _ (by omega) (by omega) HB2.out c1 c2).mono ?_; rintro e wx ⟨rfl, rfl⟩)
                    go_roundg (l.names.length - (m + 1))
                    case measure => omega
                    case rel => exact ⟨m + 1, by go_num, by omega, rfl, rfl, by rw [hs.out]; simp [*]⟩
                  | true =>
                    cases hm3 : und l ab k m with
                    | false =>
                      go_wp2_with (go_at_call 53; refine (HU.out _ _ _ (by omega) (by omega) HB2.out c1 c2).mono ?_; rintro e wx ⟨rfl, rfl⟩)
                      go_roundg (l.names.length - (m + 1))
                      case measure => omega
                      case rel => exact ⟨m + 1, by go_num, by omega, rfl, rfl, by rw [hs.out]; simp [*]⟩
                    | true =>
                      go_wp2_with (go_at_call 53; refine (HU.out _ _ _ (by omega) (by omega) HB2.out c1 c2).mono ?_; rintro e wx ⟨rfl, rfl⟩)
                      go_roundg (l.names.length - (m + 1))
                      case measure => omega
                      case rel => exact ⟨m + 1, by go_num, by omega, rfl, rfl, by rw [hs.out]; simp [*]⟩
            · obtain rfl : m = l.names.length := by omega
              cases hv : lst l ab a b k l.names.length with
              | true =>
                have hB : isB l ab a b k = true := by rw [isB, HU1.out, HU2.out]; exact hv
                have hres := bound_found hlt hB hall.out
                have HRES := Lib.hid hres
                clear hres hB
                go_wp2
                go_ret
                exact ⟨ret_int HRES.out.symm, HB2.out⟩
              | false =>
                have hno : ∀ j, j < k + 1 → isB l ab a b j = false := fun j hj => by
                  rcases Nat.lt_or_ge j k with h | h
                  · exact hall.out j h
                  · obtain rfl : j = k := by omega
                    rw [isB, HU1.out, HU2.out]
                    exact hv
                have HNO := Lib.hid hno
                clear hno
                go_wp2
                go_roundg (l.names.length - (k + 1))
                case measure => omega
                case rel => exact ⟨k + 1, by go_num, by omega, rfl, rfl, HNO⟩
    · obtain rfl : k = l.names.length := by omega
      have hres := bound_none hall.out
      have HRES := Lib.hid hres
      clear hres
      go_wp2
      go_ret
      exact ⟨ret_int HRES.out.symm, HB2.out⟩
end Go.Proofs.YtokogcfcaehifaaDoor.LatWalk
