/- Contract of the law's helper that makes a sector of one byte. -/
import Derived.Test.YtlfeedjgimnahaaDg
import Derived.Laws.BytesArg
namespace Go.Proofs.Ytlfeedjgimnahaa
open Go.RowKit Go.Proofs.Ytlfeedjgimnahaa.Mem
set_option linter.unusedVariables false

/-- a sector of one byte -/
def sec (b : Int) : ByteArray := strOfNums (List.replicate 32 b)
theorem sec_size (b : Int) : (sec b).size = 32 := by simp [sec, strOfNums_size]

def ofRow (b : Int) (k : Nat) : List Value := (List.replicate k b ++ List.replicate (32 - k) 0).map (Value.int .u8)
theorem ofRow_set (b : Int) (k : Nat) (hk : k < 32) : (ofRow b k).set k (.int .u8 b) = ofRow b (k + 1) := by
  have e : 32 - k = (32 - (k + 1)) + 1 := by omega
  simp only [ofRow, e, List.replicate_succ, List.map_append, List.map_replicate, List.map_cons]
  rw [List.set_append_right _ _ (by simp)]
  simp only [List.length_replicate, Nat.sub_self, List.set_cons_zero]
  have h : List.replicate (k + 1) (Value.int .u8 b) = List.replicate k (Value.int .u8 b) ++ [Value.int .u8 b] := List.replicate_succ'
  have h2 : Value.int IntKind.u8 b :: List.replicate k (Value.int .u8 b) = List.replicate (k + 1) (Value.int .u8 b) := rfl
  rw [h2, h, List.append_assoc]
  rfl
theorem ofRow_zero (b : Int) : ofRow b 0 = (madeCells #[.int .u8 0] 32).toList := by unfold ofRow; kernel_rfl
theorem ofRow_full (b : Int) (i : Nat) (hi : i < 32) : (ofRow b 32)[i]? = some (.int .u8 ((List.replicate 32 b).getD i 0)) := by
  unfold ofRow
  rw [Nat.sub_self, List.replicate_zero, List.append_nil, List.getElem?_map]
  simp [-List.reduceReplicate, List.getD, hi]
theorem ofRow_len (b : Int) (k : Nat) (hk : k ≤ 32) : (ofRow b k).length = 32 := by simp [ofRow]; omega

set_option maxHeartbeats 1000000 in
theorem of4 (b : Int) (h0 : 0 ≤ b) (h1 : b ≤ 255) (w : World) :
    Calls Try.prog 11 #[.int .u8 b] w fun e w' => e = .returned (.string (sec b)) ∧ Below w.heap.size w w' := by
  have hmk : ∀ w : World, (Instr.makeSlice 22 (.int .i64 32) (.int .i64 32)).run Try.prog w = .ok (.slice (some ⟨w.heap.size, 0, none⟩) 32 32) (w.alloc (.cells (madeCells #[.int .u8 0] 32) 5)) := fun _ => by kernel_rfl
  go_enter Try.func11, Try.ntmps11
  go_wp2
  go_loopw [4] (fun i wr => ∃ k : Nat, k ≤ 32 ∧ i = .int .i64 k ∧ wr.ownsRow w.heap.size 5 1 (.slice (some ⟨w.heap.size, 0, none⟩) 32 32) 32 (ofRow b k) ∧ Below w.heap.size w wr) (fun i _ => 32 - (intOf i).toNat)
  case atStart =>
    refine ⟨0, by omega, rfl, ?_, (Below.refl _ _).alloc (Nat.le_refl _) _⟩
    have h := World.ownsRow_lit (base := w.heap.size) (size := 1) w (e := 5) (madeCells #[.int .u8 0] 32) 32 (Nat.le_refl _) (by decide) (by rw [size_madeCells])
    rw [ofRow_zero]
    exact h
  case round =>
    obtain ⟨k, hk, rfl, hown, hbel⟩ := hrel
    by_cases hlt : k < 32
    · have m0 : wr.cell? ⟨w.heap.size, k, none⟩ = some ((ofRow b k).getD k undef) := by
        rw [hown.cellAt k (by omega)]; simp [List.getD, ofRow_len b k hk, hlt]
      have m1 : wr.frozen? ⟨w.heap.size, k, none⟩ = false := hown.frozenAt _
      have HO := Lib.hid hown
      have HB := Lib.hid hbel
      clear hown hbel
      go_wp2
      go_roundw
      case rel => exact ⟨k + 1, by omega, by go_num, by rw [← ofRow_set b k hlt]; exact (HO.out.stored k _).1, HB.out.setCell (Nat.le_refl _) _⟩
      case measure => simp [intOf]; omega
    · obtain rfl : k = 32 := by omega
      have HO := Lib.hid hown
      have HB := Lib.hid hbel
      have hc := run_convert_bytes_arg (P := Try.prog) wr 22 5 (by kernel_rfl) (by kernel_rfl) w.heap.size 0 32 32 (List.replicate 32 b) (by simp) (fun i hi => by
        rw [Nat.zero_add, HO.out.cellAt i (by omega)]; exact ofRow_full b i hi) 9 (by kernel_rfl)
      clear hown hbel
      go_wp2
      go_ret
      exact ⟨rfl, HB.out⟩
end Go.Proofs.Ytlfeedjgimnahaa
