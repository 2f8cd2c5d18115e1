/- Contract of disk.New for 1 to 100 sectors. -/
import Derived.Test.YtlfeedjgimnahaaDi
import Derived.Test.YtlfeedjgimnahaaShelf
import Derived.Lib.Repeat
namespace Go.Proofs.Ytlfeedjgimnahaa
open Go.RowKit Go.Proofs.Ytlfeedjgimnahaa.Mem
set_option linter.unusedVariables false

theorem repeatL_one (x : UInt8) : ∀ n, Lib.repeatL [x] n = List.replicate n x
  | 0 => rfl
  | n + 1 => by simp [Lib.repeatL, repeatL_one x n, List.replicate_succ]

theorem ba_ext {a b : ByteArray} (h : a.data.toList = b.data.toList) : a = b := by
  cases a; cases b; simp at h; simp [h]

theorem chunks_zeros : ∀ n, chunks ⟨(List.replicate (n * 32) (0 : UInt8)).toArray⟩ = List.replicate n (sec 0)
  | 0 => by rw [chunks, dif_neg (by simp [ByteArray.size])]; rfl
  | n + 1 => by
    have hs : (⟨(List.replicate ((n + 1) * 32) (0 : UInt8)).toArray⟩ : ByteArray).size = (n + 1) * 32 := by simp [ByteArray.size]
    rw [chunks, dif_pos (by rw [hs]; omega), List.replicate_succ]
    congr 1
    · apply ba_ext
      simp only [Lib.extract_data, sec, strOfNums_data]
      simp [-List.reduceReplicate, List.drop_replicate, List.take_replicate]
      omega
    · rw [← chunks_zeros n]
      congr 1
      apply ba_ext
      rw [hs]
      simp only [Lib.extract_data]
      simp [-List.reduceReplicate, List.drop_replicate, List.take_replicate]
      omega

theorem new_dk (n : Nat) (h1 : 1 ≤ n) (h2 : n ≤ 100) (w : World) :
    Calls Try.prog 7 #[.int .i64 n] w fun e w' => ∃ b S, e = .returned (.pointer (some ⟨b, 0, none⟩)) ∧ w.heap.size ≤ b ∧
      DkAt w' b ⟨false, -1, [], List.replicate n (sec 0), [], 0⟩ S ∧ (∀ x ∈ S, w.heap.size ≤ x) ∧ Below w.heap.size w w' := by
  have hrep := Try.strings_Repeat ⟨#[0]⟩ (n * 32) w (by omega) (by simp [ByteArray.size]; omega)
  rw [show ((n * 32 : Nat) : Int) = min (n : Int) 4096 * 32 by omega, repeatL_one] at hrep
  have hof : ∀ w1 : World, Calls Try.prog 15 #[.string ⟨(List.replicate (n * 32) (0 : UInt8)).toArray⟩] w1 fun e w' => e = .returned (.pointer (some ⟨w1.heap.size, 0, none⟩)) ∧
      ∃ S, DkAt w' w1.heap.size ⟨false, -1, [], List.replicate n (sec 0), [], 0⟩ S ∧ (∀ x ∈ S, w1.heap.size ≤ x) ∧ Below w1.heap.size w1 w' := by
    intro w1
    have h := of_dk ⟨(List.replicate (n * 32) (0 : UInt8)).toArray⟩ w1 (by simp [ByteArray.size]; omega) (by simp [ByteArray.size]; omega)
    rw [chunks_zeros] at h
    exact h
  have HN := Lib.hid h1
  have b0 : (0 : Int) ≤ n := by omega
  have b1 : (n : Int) ≤ 100 := by omega
  clear h1 h2
  go_enter Try.func7, Try.ntmps7
  go_wp2_with (first | (go_at_call 29; refine hrep.mono ?_; rintro e w1 ⟨rfl, hb1⟩; have HB1 := Lib.hid hb1; clear hb1) | (go_at_call 15; refine (hof _).mono ?_; rintro e w2 ⟨rfl, S, hd, hS, hb2⟩))
  go_ret
  have g1 := HB1.out
  exact ⟨_, S, rfl, g1.size, hd, fun x hx => Nat.le_trans g1.size (hS x hx), g1.trans (hb2.mono g1.size)⟩
end Go.Proofs.Ytlfeedjgimnahaa
