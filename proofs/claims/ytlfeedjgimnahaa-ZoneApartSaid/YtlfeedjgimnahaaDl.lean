/- Contract of the closure of slices.Backward over the writes of a disk. -/
import Derived.Test.YtlfeedjgimnahaaDk
import Derived.RangeFuncNested
import Derived.RangeFuncBound
import Derived.RangeFuncCalls
import Derived.RangeFuncLeaves
import Derived.Shelf.Abstract
import Derived.OwnWalkIn
import Derived.TacticsInMore
import Derived.LoopNIn
import Derived.LoopIn
namespace Go.Proofs.Ytlfeedjgimnahaa
open Go.RowKit Go.Proofs.Ytlfeedjgimnahaa.Mem Go.Shelf
set_option linter.unusedVariables false
attribute [local go_sem] Oper.semAt_some

/-- what has come when k rounds are over -/
def upto {α : Type} (f : Nat → α) (k : Nat) : List α := (List.range k).map f
theorem upto_succ {α : Type} (f : Nat → α) (k : Nat) : upto f (k + 1) = upto f k ++ [f k] := by simp [upto, List.range_succ]
theorem upto_length {α : Type} (f : Nat → α) (k : Nat) : (upto f k).length = k := by simp [upto]

abbrev Wr := Int × ByteArray
def wrEnc (x : Nat × Wr) : Array Value := #[.int .i64 x.1, .agg #[.int .i64 x.2.1, .string x.2.2]]
/-- the k-th that comes: from the last one on -/
def bk (L : List Wr) (k : Nat) : Nat × Wr := (L.length - 1 - k, L.getD (L.length - 1 - k) (0, .empty))

def WrCells (n₀ : Nat) (W : World) (ao : Option Addr) (L : List Wr) : Prop :=
  ∀ k, k < L.length → ∃ g, ao = some ⟨g, 0, none⟩ ∧ g < n₀ ∧ W.cell? ⟨g, k * 2, none⟩ = some (.int .i64 (L.getD k (0, .empty)).1) ∧ W.cell? ⟨g, k * 2 + 1, none⟩ = some (.string (L.getD k (0, .empty)).2)
theorem WrCells.below {n₀ : Nat} {W W' : World} {ao : Option Addr} {L : List Wr} (h : WrCells n₀ W ao L) (hb : Below n₀ W W') : WrCells n₀ W' ao L := fun k hk => by
  obtain ⟨g, h1, h2, h3, h4⟩ := h k hk
  exact ⟨g, h1, h2, (hb.cell (p := ⟨g, k * 2, none⟩) h2).trans h3, (hb.cell (p := ⟨g, k * 2 + 1, none⟩) h2).trans h4⟩

set_option maxRecDepth 100000 in
set_option maxHeartbeats 2000000 in
theorem back1_in (F : Fence) (n : Nat) (hfn : F.fn 46) (hro : F.round = none) (hn : 1 ≤ n) (l Bs n₀ : Nat) (ao : Option Addr) (lc : Nat) (L : List Wr) (hL : L.length ≤ 1000000) (hBn : Bs < n₀) (J Jx : List (Nat × Wr) → World → Prop)
    (hY : ∀ pre x W, J pre W → pre.length < L.length → YieldAt F (n - 1) Try.prog l (wrEnc x) W fun e W' =>
      (e = .returned (.bool true) ∧ J (pre ++ [x]) W' ∧ Below n₀ W W') ∨ (e = .returned (.bool false) ∧ Jx (pre ++ [x]) W'))
    (W : World) (hBs : W.cell? ⟨Bs, 0, none⟩ = some (.slice ao L.length lc)) (hlc : L.length ≤ lc) (hc : WrCells n₀ W ao L) (h0 : J [] W) :
    CallsIn F n Try.prog 46 #[.func (.yield l) #[] #[], .pointer (some ⟨Bs, 0, none⟩)] W fun e W' => (∃ v, e = .returned v) ∧
      ((∃ ys, ys = upto (bk L) L.length ∧ J ys W') ∨ (∃ pre, (∃ k, k ≤ L.length ∧ pre = upto (bk L) k) ∧ Jx pre W')) := by
  refine callsIn_of_wp Try.func46 rfl hfn ?_ hro
  simp only [Try.ntmps46, List.size_toArray, List.length_cons, List.length_nil, Nat.reduceAdd, Nat.reduceSub, Array.replicate_succ, Array.replicate_zero, List.push_toArray, List.append_toArray, List.nil_append, List.cons_append]
  have HC := Lib.hid hc
  have HL := Lib.hid hlc
  clear hc hlc
  gi_wp2
  gi_loopw [3] (fun i wr => ∃ k : Nat, k ≤ L.length ∧ i = .int .i64 ((L.length : Int) - 1 - k) ∧ J (upto (bk L) k) wr ∧ Below n₀ W wr)
    (fun i _ => (intOf i + 1).toNat)
  case atStart => exact ⟨0, Nat.zero_le _, by simp, h0, Below.refl _ _⟩
  case round =>
    obtain ⟨k, hk, rfl, hJs, hnx⟩ := hrel
    have hbx : wr.cell? ⟨Bs, 0, none⟩ = some (.slice ao L.length lc) := (hnx.cell (p := ⟨Bs, 0, none⟩) hBn).trans hBs
    by_cases hlt : k < L.length
    · obtain ⟨m, hm⟩ : ∃ m : Nat, m = L.length - 1 - k := ⟨_, rfl⟩
      obtain ⟨g, rfl, hg, hc1, hc2⟩ := (HC.out.below hnx) m (by omega)
      obtain ⟨x, hx⟩ : ∃ x : Wr, L.getD m (0, .empty) = x := ⟨_, rfl⟩
      rw [hx] at hc1 hc2
      have HX := Lib.hid hx
      clear hx
      obtain ⟨fn, tmps, assign, body, hy, hR⟩ := hY _ (m, x) wr hJs (by rw [upto_length]; exact hlt)
      dsimp only [wrEnc] at hy
      have hm2 : (L.length : Int) - 1 - k = (m : Int) := by omega
      have hmk : m < L.length := by omega
      rw [hm2]
      have HM := Lib.hid hm2
      have HM1 := Lib.hid hm
      clear hm2 hm
      gi_wp2
      refine hR.mono ?_
      rintro e W3 (⟨rfl, hJ3, hk3⟩ | ⟨rfl, hJx3⟩)
      · have hM1 := HM1.out
        gi_wp2
        go_roundw
        case rel => exact ⟨k + 1, by omega, by congr 1; have := HM.out; omega, by rw [upto_succ, bk, ← HM1.out, HX.out]; exact hJ3, hnx.trans hk3⟩
        case measure => simp [intOf]; omega
      · gi_wp2
        refine bodyPost_ret (results_none rfl _ _ _) rfl ?_
        exact ⟨⟨_, rfl⟩, .inr ⟨_, ⟨k + 1, by omega, rfl⟩, by rw [upto_succ, bk, ← HM1.out, HX.out]; exact hJx3⟩⟩
    · obtain rfl : k = L.length := by omega
      gi_wp2
      go_end0
      exact ⟨⟨_, rfl⟩, .inl ⟨_, rfl, hJs⟩⟩
end Go.Proofs.Ytlfeedjgimnahaa
