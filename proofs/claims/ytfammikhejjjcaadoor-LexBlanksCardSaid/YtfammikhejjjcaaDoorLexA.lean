/- The law's fixed text is read as its four words: awake. Conditions: what is laid. -/
import Derived.Test.YtfammikhejjjcaaDoorLex9
namespace Go.Proofs.YtfammikhejjjcaaDoor.Lex
set_option linter.unusedVariables false
set_option linter.unusedSimpArgs false
open Go Go.Lib Go.RowKit Go.Proofs.YtfammikhejjjcaaDoorW.PrintWords Go.Proofs.YtfammikhejjjcaaDoor.Aux Go.Proofs.YtfammikhejjjcaaDoor.LatSpec Go.Proofs.YtfammikhejjjcaaDoor.LexSpec Go.Proofs.YtfammikhejjjcaaDoor.Kinds
/-- How many bytes are letters or digits, byte by byte. -/
def wN : Nat → L → Nat
  | 0, _ => 0
  | _ + 1, [] => 0
  | n + 1, b :: t => if 0 < ks (b :: t) then ks (b :: t) + wN n ((b :: t).drop (ks (b :: t))) else if isD (b :: t) then 1 + wN n t else 0
theorem wN_eq : ∀ (n : Nat) (l : L), l.length ≤ n → ofN wordP l = wN n l
  | 0, [], _ => by rw [ofN_nil]; rfl
  | 0, _ :: _, h => by simp at h
  | n + 1, [], _ => by rw [ofN_nil]; rfl
  | n + 1, b :: t, h => by
    simp only [List.length_cons] at h
    rw [LexSpec.of_word (by simp), wN]
    split
    · rw [wN_eq n _ (by simp only [List.length_drop, List.length_cons]; omega)]
    · split
      · rw [show (b :: t).drop 1 = t from rfl, wN_eq n t (by omega)]
      · rfl
def dN : L → Nat
  | [] => 0
  | b :: t => if digitR b.toNat then 1 + dN t else 0
theorem dN_eq : ∀ l : L, ofN digitR l = dN l
  | [] => by rw [ofN_nil]; rfl
  | b :: t => by
    rw [LexSpec.of_digit (by simp), dN, isD, show (b :: t).drop 1 = t from rfl, dN_eq t]
theorem next_name {l : L} {m : Nat} (hk : 0 < ks l) (hw : wN l.length l = m) (hn : nameR (l.take m) = true) : next l = some ⟨if isKw (l.take m) then 2 else 1, m, 0⟩ := by
  rw [next, if_pos hk, nextName, wN_eq l.length l (Nat.le_refl _), hw, if_pos hn]
theorem next_num {l : L} {m : Nat} (hk : ks l = 0) (hd : isD l = true) (hw : dN l = m) (hn : numOK (l.take m) = true) : next l = some ⟨3, m, valD (l.take m)⟩ := by
  rw [next, if_neg (by omega), if_pos hd, nextNum, dN_eq, hw, if_pos hn]
def aw : L := [108, 101, 116, 32, 120, 61, 49]
def awT : List T := [⟨2, ⟨#[108, 101, 116]⟩, 0, 0⟩, ⟨1, ⟨#[120]⟩, 0, 4⟩, ⟨4, ⟨#[61]⟩, 0, 5⟩, ⟨3, ⟨#[49]⟩, 1, 6⟩]
theorem read_aw : readR aw = .ok awT := by
  rw [readR, if_neg (by decide), rd_tok (t := ⟨2, 3, 0⟩) (by decide) (by decide) (next_name (m := 3) (by decide) (by decide) (by decide)) _ (by decide)]
  rw [show aw.drop (⟨2, 3, 0⟩ : Tk).m = [32, 120, 61, 49] from rfl, rd_skip (k := 1) (by decide)]
  rw [show ([32, 120, 61, 49] : L).drop 1 = [120, 61, 49] from rfl, rd_tok (t := ⟨1, 1, 0⟩) (by decide) (by decide) (next_name (m := 1) (by decide) (by decide) (by decide)) _ (by decide)]
  rw [show ([120, 61, 49] : L).drop (⟨1, 1, 0⟩ : Tk).m = [61, 49] from rfl, rd_tok (t := ⟨4, 1, 0⟩) (by decide) (by decide) (by rw [next, if_neg (by decide), if_neg (by decide), nextSign, if_neg (by decide), if_pos (by decide)]) _ (by decide)]
  rw [show ([61, 49] : L).drop (⟨4, 1, 0⟩ : Tk).m = [49] from rfl, rd_tok (t := ⟨3, 1, 1⟩) (by decide) (by decide) (next_num (m := 1) (by decide) (by decide) (by decide) (by decide)) _ (by decide)]
  rw [show ([49] : L).drop (⟨3, 1, 1⟩ : Tk).m = [] from rfl, rd_nil]
  rfl
set_option maxRecDepth 100000 in
set_option maxHeartbeats 1600000 in
theorem awake_calls (w : World) (hT : Tbx w) : Calls Tryd.prog 9 #[] w fun e w' => e = .returned (.bool true) ∧ Below w.heap.size w w' := by
  have HC := Lib.hid (read_calls ⟨#[108, 101, 116, 32, 120, 61, 49]⟩ w (by decide) hT)
  clear hT
  have HC2 := Lib.hid (HC.out.mono (fun e w' h => show ∃ A c, e = .returned (.tuple #[.slice A 4 c, .int .i64 0, .int .i64 0]) ∧ kT.C w' A 4 awT ∧ Below w.heap.size w w' from by
    obtain ⟨v, he, hR, hb⟩ := h
    rw [show (⟨#[108, 101, 116, 32, 120, 61, 49]⟩ : ByteArray).data.toList = aw from rfl, read_aw] at he hR
    obtain ⟨A, c, rfl, _, hC⟩ := Kd.R_reads hR
    exact ⟨A, c, he, hC, hb⟩))
  clear HC
  go_enter Tryd.func9, Tryd.ntmps9
  go_wp2_with fail
  refine HC2.out.mono ?_
  rintro e w1 ⟨A, c, rfl, hC, hb⟩
  obtain ⟨ad, rfl, a0, a1, a2, a3⟩ := elT hC (i := 0) (by omega)
  obtain ⟨ad2, hA, b0, b1, b2, b3⟩ := elT hC (i := 3) (by omega)
  obtain rfl := Option.some.inj hA
  rw [Nat.zero_mul, Addr.add_zero'] at a0
  have k0 : w1.cell? ad = some (.int .i64 2) := a0
  have k2 : w1.cell? ⟨ad.block, ad.off + 12 + 2, none⟩ = some (.int .i64 1) := by simpa [Addr.add, awT] using b2
  have k3 : w1.cell? ⟨ad.block, ad.off + 12 + 3, none⟩ = some (.int .i64 6) := by simpa [Addr.add, awT] using b3
  have HB := Lib.hid hb
  clear hb hC a0 a1 a2 a3 b0 b1 b2 b3
  go_wp2
  go_ret
  exact ⟨rfl, HB.out⟩
end Go.Proofs.YtfammikhejjjcaaDoor.Lex
