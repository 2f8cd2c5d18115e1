/- The pen's eye: contracts of fail, take, Byte, Num, Text, Left, Err, End. The pen's eye: contract of End. The pen's eye: contract of Num. The pen's eye: Num and Text whole. The reader's methods over an eye: contracts of num, text, flag. The reader's flag and row over an eye: contracts. The reader's row over an eye: contract. The visit with the reader: contract. -/
import Derived.Test.YtbedamkeeongfaaOe
import Derived.Test.YtbedamkeeongfaaOd
import Derived.Lib.EndianBits
import Derived.Deep.RegionLaw
import Derived.Test.YtbedamkeeongfaaOf
namespace Go.Proofs.Ytbedamkeeongfaa
open Go.RowKit Go.Proofs.Ytbedamkeeongfaa.Mem
set_option linter.unusedVariables false

/-- an eye in block b -/
def EyeAt (b : Nat) (s : ByteArray) (bad : Bool) (w : World) : Prop := w.heap[b]? = some (.cells #[.string s, .bool bad] 105 (0, 0))
theorem EyeAt.cells {b s bad w} (h : EyeAt b s bad w) : w.cell? ⟨b, 0, none⟩ = some (.string s) ∧ w.cell? ⟨b, 1, none⟩ = some (.bool bad) ∧ w.frozen? ⟨b, 0, none⟩ = false ∧ w.frozen? ⟨b, 1, none⟩ = false := by
  have h' : w.heap[b]? = _ := h
  refine ⟨by rw [Lib.cell_of_heap h']; rfl, by rw [Lib.cell_of_heap h']; rfl, Lib.frozen_of_heap h' 0, Lib.frozen_of_heap h' 1⟩
theorem EyeAt.set0 {b s bad w} (h : EyeAt b s bad w) (t : ByteArray) : EyeAt b t bad (w.setCell ⟨b, 0, none⟩ (.string t)) := heap_set h 0 _
theorem EyeAt.set1 {b s bad w} (h : EyeAt b s bad w) (t : Bool) : EyeAt b s t (w.setCell ⟨b, 1, none⟩ (.bool t)) := heap_set h 1 _

set_option maxRecDepth 100000 in
theorem eye_fail (b : Nat) (s : ByteArray) (bad : Bool) (w : World) (h : EyeAt b s bad w) :
    Calls Try.prog 61 #[.pointer (some ⟨b, 0, none⟩)] w fun e w' => e = .returned (.tuple #[]) ∧ EyeAt b ⟨#[]⟩ true w' ∧ Out [b] w w' := by
  obtain ⟨c0, c1, f0, f1⟩ := h.cells
  have H := Lib.hid h
  clear h
  go_enter Try.func61, Try.ntmps61
  go_wp2
  go_end0
  exact ⟨rfl, (H.out.set0 _).set1 _, ((Out.refl _ _).setCell (by simp) _).setCell (by simp) _⟩

/-- what take gives: what is told, whether, what is left, whether it is bad -/
def takeE (s : ByteArray) (bad : Bool) (n : Nat) : ByteArray × Bool × ByteArray × Bool :=
  if bad = true ∨ s.size < n then (⟨#[]⟩, false, ⟨#[]⟩, true) else (s.extract 0 n, true, s.extract n s.size, false)

set_option maxRecDepth 100000 in
theorem eye_take (b : Nat) (s : ByteArray) (bad : Bool) (n : Nat) (w : World) (h : EyeAt b s bad w) (hs : (s.size : Int) ≤ 100000000) :
    Calls Try.prog 56 #[.pointer (some ⟨b, 0, none⟩), .int .i64 n] w fun e w' => e = .returned (.tuple #[.string (takeE s bad n).1, .bool (takeE s bad n).2.1]) ∧ EyeAt b (takeE s bad n).2.2.1 (takeE s bad n).2.2.2 w' ∧ Out [b] w w' := by
  obtain ⟨c0, c1, f0, f1⟩ := h.cells
  have HF := Lib.hid (eye_fail b s bad w h)
  have H := Lib.hid h
  clear h
  unfold takeE
  by_cases hb : bad = true ∨ s.size < n
  · rw [if_pos hb]
    cases bad with
    | true =>
      go_enter Try.func56, Try.ntmps56
      go_wp2_with (go_at_call 61; refine HF.out.mono ?_; rintro e w1 ⟨rfl, h1, h2⟩; have H1 := Lib.hid h1; clear h1)
      go_ret2
      exact ⟨rfl, H1.out, h2⟩
    | false =>
      have hn : s.size < n := by simpa using hb
      clear hb
      go_enter Try.func56, Try.ntmps56
      go_wp2_with (go_at_call 61; refine HF.out.mono ?_; rintro e w1 ⟨rfl, h1, h2⟩; have H1 := Lib.hid h1; clear h1)
      go_ret2
      exact ⟨rfl, H1.out, h2⟩
  · rw [if_neg hb]
    obtain rfl : bad = false := by cases bad <;> simp_all
    have hn : n ≤ s.size := by simp at hb; omega
    clear hb
    go_enter Try.func56, Try.ntmps56
    go_wp2_with fail
    go_ret2
    exact ⟨rfl, H.out.set0 _, (Out.refl _ _).setCell (by simp) _⟩

theorem eye_left (b : Nat) (s : ByteArray) (bad : Bool) (w : World) (h : EyeAt b s bad w) :
    Calls Try.prog 58 #[.pointer (some ⟨b, 0, none⟩)] w fun e w' => e = .returned (.int .i64 s.size) ∧ w' = w := by
  obtain ⟨c0, c1, f0, f1⟩ := h.cells
  clear h
  go_enter Try.func58, Try.ntmps58
  go_wp2
  go_ret
  exact ⟨rfl, rfl⟩

theorem eye_err (b : Nat) (s : ByteArray) (bad : Bool) (w : World) (h : EyeAt b s bad w) :
    Calls Try.prog 57 #[.pointer (some ⟨b, 0, none⟩)] w fun e w' => e = .returned (.int .i64 (if bad = true then 5 else 0)) ∧ w' = w := by
  obtain ⟨c0, c1, f0, f1⟩ := h.cells
  clear h
  cases bad
  · go_enter Try.func57, Try.ntmps57
    go_wp2
    go_ret
    exact ⟨rfl, rfl⟩
  · go_enter Try.func57, Try.ntmps57
    go_wp2
    go_ret
    exact ⟨rfl, rfl⟩

set_option maxRecDepth 100000 in
theorem eye_byte (b : Nat) (s : ByteArray) (bad : Bool) (w : World) (h : EyeAt b s bad w) (hs : (s.size : Int) ≤ 100000000) :
    Calls Try.prog 40 #[.pointer (some ⟨b, 0, none⟩)] w fun e w' => e = .returned (.int .u8 (if bad = true ∨ s.size < 1 then 0 else (s.data.toList.getD 0 0).toNat)) ∧ EyeAt b (takeE s bad 1).2.2.1 (takeE s bad 1).2.2.2 w' ∧ Out [b] w w' := by
  have HT := Lib.hid (eye_take b s bad 1 w h hs)
  unfold takeE at HT ⊢
  clear h
  by_cases hb : bad = true ∨ s.size < 1
  · rw [if_pos hb]
    rw [if_pos hb] at HT
    rw [if_pos hb]
    clear hb
    go_enter Try.func40, Try.ntmps40
    go_wp2_with (go_at_call 56; refine HT.out.mono ?_; rintro e w1 ⟨rfl, h1, h2⟩; have H1 := Lib.hid h1; clear h1)
    go_ret
    exact ⟨rfl, H1.out, h2⟩
  · rw [if_neg hb]
    rw [if_neg hb] at HT
    rw [if_neg hb]
    have h1s : 1 ≤ s.size := by have := not_or.1 hb; omega
    have hz : (s.extract 0 1).size = 1 := by rw [ByteArray.size_extract]; omega
    clear hb
    go_enter Try.func40, Try.ntmps40
    go_wp2_with (go_at_call 56; refine HT.out.mono ?_; rintro e w1 ⟨rfl, h1, h2⟩; have H1 := Lib.hid h1; clear h1)
    go_ret
    refine ⟨?_, H1.out, h2⟩
    have hv : ∀ h : 0 < (s.extract 0 1).size, (s.extract 0 1)[0]'h = s.data.toList.getD 0 0 := by
      intro h
      have h0 : 0 < s.data.size := h1s
      rw [List.getD_eq_getElem?_getD]
      simp [ByteArray.getElem_eq_getElem_data, ByteArray.data_extract]
      rw [Array.getElem?_eq_getElem h0]
      rfl
    rw [hv]
    rfl
end Go.Proofs.Ytbedamkeeongfaa

namespace Go.Proofs.Ytbedamkeeongfaa
open Go.RowKit Go.Proofs.Ytbedamkeeongfaa.Mem
set_option linter.unusedVariables false

theorem eye_end (b : Nat) (s : ByteArray) (bad : Bool) (w : World) (h : EyeAt b s bad w) :
    Calls Try.prog 41 #[.pointer (some ⟨b, 0, none⟩)] w fun e w' => e = .returned (.int .i64 (if bad = true then 5 else if s.size = 0 then 0 else 5)) ∧ w' = w := by
  have he := eye_err b s bad w h
  have hl := eye_left b s bad w h
  clear h
  cases bad
  · by_cases hz : s.size = 0
    · rw [hz] at hl
      simp only [hz, if_true]
      go_enter Try.func41, Try.ntmps41
      go_wp2_with (first | (go_at_call 57; refine he.mono ?_; rintro e w1 ⟨rfl, rfl⟩) | (go_at_call 58; refine hl.mono ?_; rintro e w1 ⟨rfl, rfl⟩))
      go_ret
      exact ⟨rfl, rfl⟩
    · simp only [hz, if_false]
      obtain ⟨z, hzz⟩ : ∃ z : Int, (s.size : Int) = z := ⟨_, rfl⟩
      have hz0 : ¬ z = 0 := by omega
      rw [hzz] at hl
      go_enter Try.func41, Try.ntmps41
      go_wp2_with (first | (go_at_call 57; refine he.mono ?_; rintro e w1 ⟨rfl, rfl⟩) | (go_at_call 58; refine hl.mono ?_; rintro e w1 ⟨rfl, rfl⟩))
      go_ret
      exact ⟨rfl, rfl⟩
  · go_enter Try.func41, Try.ntmps41
    go_wp2_with (first | (go_at_call 57; refine he.mono ?_; rintro e w1 ⟨rfl, rfl⟩) | (go_at_call 58; refine hl.mono ?_; rintro e w1 ⟨rfl, rfl⟩))
    go_ret
    exact ⟨rfl, rfl⟩
end Go.Proofs.Ytbedamkeeongfaa

namespace Go.Proofs.Ytbedamkeeongfaa
open Go.RowKit Go.Proofs.Ytbedamkeeongfaa.Mem
set_option linter.unusedVariables false

/-- the number of the first k bytes -/
def leV (t : ByteArray) : Nat → Int
  | 0 => 0
  | k + 1 => leV t k + (t.data.toList.getD k 0).toNat * 256 ^ k

theorem leV_low (t : ByteArray) : ∀ k, 0 ≤ leV t k ∧ leV t k < 256 ^ k
  | 0 => by simp [leV]
  | k + 1 => by
    have ih := leV_low t k
    have hb : (((t.data.toList.getD k 0).toNat : Nat) : Int) ≤ 255 := by have := (t.data.toList.getD k 0).toNat_lt; omega
    have hb0 : 0 ≤ (((t.data.toList.getD k 0).toNat : Nat) : Int) := by omega
    have hp : (0 : Int) < 256 ^ k := Int.pow_pos (by decide)
    have h1 : (((t.data.toList.getD k 0).toNat : Nat) : Int) * 256 ^ k ≤ 255 * 256 ^ k := Int.mul_le_mul_of_nonneg_right hb (by omega)
    have h0 := Int.mul_nonneg hb0 (Int.le_of_lt hp)
    simp only [leV, Int.pow_succ]
    omega
theorem w64 (n : Int) : IntKind.i64.wrap n = Go.RowKit.wrap64 n := by unfold Go.RowKit.wrap64; exact IntKind.wrap_i64 n
theorem wraps_i64' (n : Int) (h₀ : 0 ≤ n) (h₁ : n < 2 ^ 40) : IntKind.i64.wrap n = n := IntWalk.i64_in n (by omega)
theorem leV_step (t : ByteArray) (k : Nat) (hk : k ≤ 3) (m x : Int) (hm : m = 256 ^ k) (hx : x = (t.data.toList.getD k 0).toNat) : bits .or .i64 (leV t k) (IntKind.i64.wrap (IntKind.i64.wrap x * m)) = leV t (k + 1) := by
  have hb := (t.data.toList.getD k 0).toNat_lt
  have hl := leV_low t k
  have hp : (256 : Int) ^ k ≤ 16777216 ∧ (0 : Int) < 256 ^ k := by rcases (by omega : k = 0 ∨ k = 1 ∨ k = 2 ∨ k = 3) with rfl | rfl | rfl | rfl <;> decide
  have h1 : x * m ≤ 255 * m := Int.mul_le_mul_of_nonneg_right (by omega) (by omega)
  have h0 : 0 ≤ x * m := Int.mul_nonneg (by omega) (by omega)
  rw [IntWalk.i64_in x (by omega), IntWalk.i64_in (x * m) (by omega)]
  rw [bits_join_low .i64 40 (by decide) wraps_i64' (8 * k) (leV t k) (x * m) hl.1 ?_ (by omega) h0 ?_ (by omega)]
  · rw [leV, hm, hx]
  · rw [Int.pow_mul]; exact hl.2
  · rw [Int.pow_mul, hm]; exact Int.mul_emod_left _ _

set_option maxRecDepth 100000 in
theorem eye_num0 (b : Nat) (s : ByteArray) (bad : Bool) (most : Int) (w : World) (h : EyeAt b s bad w) (hs : (s.size : Int) ≤ 100000000) (hb : ¬ (bad = true ∨ s.size < 4)) :
    Calls Try.prog 49 #[.pointer (some ⟨b, 0, none⟩), .int .i64 most] w fun e w' => e = .returned (.int .i64 (if most < leV (s.extract 0 4) 4 then 0 else leV (s.extract 0 4) 4)) ∧ EyeAt b (if most < leV (s.extract 0 4) 4 then ⟨#[]⟩ else s.extract 4 s.size) (decide (most < leV (s.extract 0 4) 4)) w' ∧ Out [b] w w' := by
  have HT := Lib.hid (eye_take b s bad 4 w h hs)
  unfold takeE at HT
  rw [if_neg hb] at HT
  clear h
  have hz : (s.extract 0 4).size = 4 := by have := not_or.1 hb; rw [ByteArray.size_extract]; omega
  obtain ⟨t, ht⟩ : ∃ t, s.extract 0 4 = t := ⟨_, rfl⟩
  rw [ht] at HT hz ⊢
  have hx0 : (t.data.toList.getD 0 0) = t.data[0]'(by have := hz; rw [← ByteArray.size_data] at this; omega) := by rw [List.getD_eq_getElem?_getD, Array.getElem?_toList, Array.getElem?_eq_getElem (by have := hz; rw [← ByteArray.size_data] at this; omega)]; rfl
  have hx1 : (t.data.toList.getD 1 0) = t.data[1]'(by have := hz; rw [← ByteArray.size_data] at this; omega) := by rw [List.getD_eq_getElem?_getD, Array.getElem?_toList, Array.getElem?_eq_getElem (by have := hz; rw [← ByteArray.size_data] at this; omega)]; rfl
  have hx2 : (t.data.toList.getD 2 0) = t.data[2]'(by have := hz; rw [← ByteArray.size_data] at this; omega) := by rw [List.getD_eq_getElem?_getD, Array.getElem?_toList, Array.getElem?_eq_getElem (by have := hz; rw [← ByteArray.size_data] at this; omega)]; rfl
  have hx3 : (t.data.toList.getD 3 0) = t.data[3]'(by have := hz; rw [← ByteArray.size_data] at this; omega) := by rw [List.getD_eq_getElem?_getD, Array.getElem?_toList, Array.getElem?_eq_getElem (by have := hz; rw [← ByteArray.size_data] at this; omega)]; rfl
  go_enter Try.func49, Try.ntmps49
  go_wp2_with (go_at_call 56; refine HT.out.mono ?_; rintro e w1 ⟨rfl, h1, h2⟩; have H1 := Lib.hid h1; clear h1)
  rw [Lib.run_convert_string_bytes w1 9 51 5 t Try.underlying9 Try.underlying51 Try.underlying5]
  simp only [Result.andThen]
  rw [Oper.upon_value]
  have q0 := Lib.bytesWorld_cell w1 5 t 0 (by omega)
  have q1 := Lib.bytesWorld_cell w1 5 t 1 (by omega)
  have q2 := Lib.bytesWorld_cell w1 5 t 2 (by omega)
  have q3 := Lib.bytesWorld_cell w1 5 t 3 (by omega)
  have H1b := Lib.hid (show EyeAt b (s.extract 4 s.size) false (Lib.bytesWorld w1 5 t) from (below_bytes w1 _ t).block b (lt_of_block H1.out) |>.trans H1.out)
  have HOW := Lib.hid (Out.of_below (below_bytes w1 5 t) [])
  generalize Lib.bytesWorld w1 5 t = W at *
  go_wp2_with fail
  go_loopw [7, 20] (fun n i wr => ∃ k : Nat, k ≤ 4 ∧ i = .int .i64 k ∧ n = .int .i64 (leV t k) ∧ W = wr) (fun _ i _ => 4 - (intOf i).toNat)
  case atStart => exact ⟨0, by omega, rfl, rfl, rfl⟩
  case round =>
    obtain ⟨k, hk, rfl, rfl, rfl⟩ := hrel
    rcases (by omega : k = 4 ∨ k = 0 ∨ k = 1 ∨ k = 2 ∨ k = 3) with rfl | rfl | rfl | rfl | rfl
    · by_cases hm : most < leV t 4
      · have HM := Lib.hid hm
        go_wp2_with (go_at_call 61; refine (eye_fail b _ _ _ H1b.out).mono ?_; rintro e w3 ⟨rfl, h3, h4⟩; have H3 := Lib.hid h3; clear h3)
        go_ret
        refine ⟨by first | rfl | (rw [if_pos HM.out]; rfl), by first | exact H3.out | (rw [if_pos HM.out, decide_eq_true HM.out]; exact H3.out), ?_⟩
        exact (h2.trans HOW.out (by simp)).trans h4 (by simp)
      · have HM := Lib.hid hm
        go_wp2_with fail
        go_ret
        refine ⟨by first | rfl | (rw [if_neg HM.out]; rfl), by first | exact H1b.out | (rw [if_neg HM.out, decide_eq_false HM.out]; exact H1b.out), ?_⟩
        exact h2.trans HOW.out (by simp)
    · have e := leV_step t 0 (by decide) 1 (t.data.toList.getD 0 0).toNat (by decide) rfl
      have E := Lib.hid e
      clear e
      go_wp2_with fail
      refine ⟨⟨1, by decide, rfl, ?_, trivial⟩, by decide⟩
      rw [← E.out, hx0]
      rw [Int.mul_one]
      simp only [w64]
    · have e := leV_step t 1 (by decide) 256 (t.data.toList.getD 1 0).toNat (by decide) rfl
      have E := Lib.hid e
      clear e
      go_wp2_with fail
      refine ⟨⟨2, by decide, rfl, ?_, trivial⟩, by decide⟩
      rw [← E.out, hx1]
      simp only [w64]
    · have e := leV_step t 2 (by decide) 65536 (t.data.toList.getD 2 0).toNat (by decide) rfl
      have E := Lib.hid e
      clear e
      go_wp2_with fail
      refine ⟨⟨3, by decide, rfl, ?_, trivial⟩, by decide⟩
      rw [← E.out, hx2]
      simp only [w64]
    · have e := leV_step t 3 (by decide) 16777216 (t.data.toList.getD 3 0).toNat (by decide) rfl
      have E := Lib.hid e
      clear e
      go_wp2_with fail
      refine ⟨⟨4, by decide, rfl, ?_, trivial⟩, by decide⟩
      rw [← E.out, hx3]
      simp only [w64]
end Go.Proofs.Ytbedamkeeongfaa

namespace Go.Proofs.Ytbedamkeeongfaa
open Go.RowKit Go.Proofs.Ytbedamkeeongfaa.Mem
set_option linter.unusedVariables false

/-- what Num gives: the number, what is left, whether it is bad -/
def numE (s : ByteArray) (bad : Bool) (most : Int) : Int × ByteArray × Bool :=
  if bad = true ∨ s.size < 4 then (0, ⟨#[]⟩, true) else if most < leV (s.extract 0 4) 4 then (0, ⟨#[]⟩, true) else (leV (s.extract 0 4) 4, s.extract 4 s.size, false)

set_option maxRecDepth 100000 in
theorem eye_num (b : Nat) (s : ByteArray) (bad : Bool) (most : Int) (w : World) (h : EyeAt b s bad w) (hs : (s.size : Int) ≤ 100000000) :
    Calls Try.prog 49 #[.pointer (some ⟨b, 0, none⟩), .int .i64 most] w fun e w' => e = .returned (.int .i64 (numE s bad most).1) ∧ EyeAt b (numE s bad most).2.1 (numE s bad most).2.2 w' ∧ Out [b] w w' := by
  by_cases hb : bad = true ∨ s.size < 4
  · have HT := Lib.hid (eye_take b s bad 4 w h hs)
    unfold takeE at HT
    rw [if_pos hb] at HT
    unfold numE
    rw [if_pos hb]
    clear h hb
    go_enter Try.func49, Try.ntmps49
    go_wp2_with (go_at_call 56; refine HT.out.mono ?_; rintro e w1 ⟨rfl, h1, h2⟩; have H1 := Lib.hid h1; clear h1)
    go_ret
    exact ⟨rfl, H1.out, h2⟩
  · refine (eye_num0 b s bad most w h hs hb).mono ?_
    rintro e w' ⟨rfl, h1, h2⟩
    unfold numE
    rw [if_neg hb]
    by_cases hm : most < leV (s.extract 0 4) 4
    · rw [if_pos hm, decide_eq_true hm] at h1
      rw [if_pos hm, if_pos hm]
      exact ⟨rfl, h1, h2⟩
    · rw [if_neg hm, decide_eq_false hm] at h1
      rw [if_neg hm, if_neg hm]
      exact ⟨rfl, h1, h2⟩

theorem numE_pos (s : ByteArray) (bad : Bool) (most : Int) : 0 ≤ (numE s bad most).1 := by
  unfold numE
  split
  · exact Int.le_refl _
  · split
    · exact Int.le_refl _
    · exact (leV_low _ 4).1
theorem numE_size (s : ByteArray) (bad : Bool) (most : Int) : (numE s bad most).2.1.size ≤ s.size := by
  unfold numE
  split
  · exact Nat.zero_le _
  · split
    · exact Nat.zero_le _
    · rw [ByteArray.size_extract]; omega
/-- what Text gives -/
def textE (s : ByteArray) (bad : Bool) (most : Int) : ByteArray × Bool × ByteArray × Bool := takeE (numE s bad most).2.1 (numE s bad most).2.2 (numE s bad most).1.toNat

set_option maxRecDepth 100000 in
theorem eye_text (b : Nat) (s : ByteArray) (bad : Bool) (most : Int) (w : World) (h : EyeAt b s bad w) (hs : (s.size : Int) ≤ 100000000) :
    Calls Try.prog 50 #[.pointer (some ⟨b, 0, none⟩), .int .i64 most] w fun e w' => e = .returned (.string (textE s bad most).1) ∧ EyeAt b (textE s bad most).2.2.1 (textE s bad most).2.2.2 w' ∧ Out [b] w w' := by
  have HN := Lib.hid (eye_num b s bad most w h hs)
  have hp := numE_pos s bad most
  have hz := numE_size s bad most
  unfold textE
  generalize numE s bad most = q at HN hp hz ⊢
  obtain ⟨n, r, bd⟩ := q
  obtain ⟨m, rfl⟩ : ∃ m : Nat, n = m := ⟨n.toNat, by simp at hp; omega⟩
  have HT := Lib.hid (fun w1 (h1 : EyeAt b r bd w1) => eye_take b r bd m w1 h1 (by simp at hz; omega))
  clear h hp hz
  go_enter Try.func50, Try.ntmps50
  go_wp2_with (first | (go_at_call 49; refine HN.out.mono ?_; rintro e w1 ⟨rfl, h1, h2⟩; have H1 := Lib.hid h1; clear h1) | (go_at_call 56; refine (HT.out _ H1.out).mono ?_; rintro e w2 ⟨rfl, h3, h4⟩; have H3 := Lib.hid h3; clear h3))
  go_ret
  exact ⟨rfl, H3.out, h2.trans h4 (by simp)⟩
end Go.Proofs.Ytbedamkeeongfaa

namespace Go.Proofs.Ytbedamkeeongfaa
open Go.RowKit Go.Proofs.Ytbedamkeeongfaa.Mem
set_option linter.unusedVariables false

/-- a reader in block rb over an eye in block b -/
def ReadAt (rb b : Nat) (s : ByteArray) (bad wrong : Bool) (w : World) : Prop :=
  w.heap[rb]? = some (.cells #[.pointer (some ⟨b, 0, none⟩), .bool wrong] 73 (0, 0)) ∧ EyeAt b s bad w ∧ rb ≠ b
theorem ReadAt.cells {rb b : Nat} {s : ByteArray} {bad wrong : Bool} {w : World} (h : ReadAt rb b s bad wrong w) : w.cell? ⟨rb, 0, none⟩ = some (.pointer (some ⟨b, 0, none⟩)) ∧ w.cell? ⟨rb, 1, none⟩ = some (.bool wrong) ∧ w.frozen? ⟨rb, 1, none⟩ = false := by
  refine ⟨by rw [Lib.cell_of_heap h.1]; rfl, by rw [Lib.cell_of_heap h.1]; rfl, Lib.frozen_of_heap h.1 1⟩

theorem numE_lt (s : ByteArray) (bad : Bool) (most : Int) : (numE s bad most).1 < 4294967296 := by
  unfold numE
  split
  · decide
  · split
    · decide
    · exact (leV_low _ 4).2

set_option maxRecDepth 100000 in
theorem reader_num (rb b cb f : Nat) (s : ByteArray) (bad wrong : Bool) (cs : Array Value) (t : Nat) (w : World) (h : ReadAt rb b s bad wrong w) (hs : (s.size : Int) ≤ 100000000)
    (hc : w.heap[cb]? = some (.cells cs t (0, 0))) (hf : f < cs.size) (hcb : cb ≠ b) (hcr : cb ≠ rb) :
    Calls Try.prog 87 #[.pointer (some ⟨rb, 0, none⟩), .pointer (some ⟨cb, f, none⟩)] w fun e w' => e = .returned (.tuple #[]) ∧
      ReadAt rb b (numE s bad 4294967295).2.1 (numE s bad 4294967295).2.2 wrong w' ∧ w'.heap[cb]? = some (.cells (cs.setIfInBounds f (.int .i64 ((numE s bad 4294967295).1 - 2147483648))) t (0, 0)) ∧ Out [b, cb] w w' := by
  obtain ⟨c0, c1, f1⟩ := h.cells
  have HN := Lib.hid (eye_num b s bad 4294967295 w h.2.1 hs)
  have H := Lib.hid h
  have HC := Lib.hid hc
  have hp := numE_pos s bad 4294967295
  clear h hc
  have hp2 := numE_lt s bad 4294967295
  generalize numE s bad 4294967295 = q at HN hp hp2 ⊢
  obtain ⟨n, r, bd⟩ := q
  simp only at hp hp2
  have hwr : IntKind.i64.wrap (n - 2147483648) = n - 2147483648 := IntWalk.i64_in _ (by omega)
  go_enter Try.func87, Try.ntmps87
  go_wp2_with (go_at_call 49; refine HN.out.mono ?_; rintro e w1 ⟨rfl, h1, h2⟩; have hc1 := (h2.block cb (lt_of_block HC.out) (by simpa using hcb)).trans HC.out; have hr1 := (h2.block rb (lt_of_block H.out.1) (by simpa using H.out.2.2)).trans H.out.1; obtain ⟨v, d0⟩ : ∃ v, w1.cell? ⟨cb, f, none⟩ = some v := ⟨cs[f], by rw [Lib.cell_of_heap hc1]; simp [hf]⟩; have g0 : w1.frozen? ⟨cb, f, none⟩ = false := Lib.frozen_of_heap hc1 f; have H1 := Lib.hid h1; have HC1 := Lib.hid hc1; have HR1 := Lib.hid hr1; clear h1 hc1 hr1)
  go_end0
  refine ⟨rfl, ⟨(Below.heap_setCell _ _ _ _ (Ne.symm hcr)).trans HR1.out, (Below.heap_setCell _ _ _ _ (Ne.symm hcb)).trans H1.out, H.out.2.2⟩, heap_set HC1.out f _, ?_⟩
  exact (h2.mono (by simp)).setCell (by simp) _

set_option maxRecDepth 100000 in
theorem reader_text (rb b cb f : Nat) (s : ByteArray) (bad wrong : Bool) (cs : Array Value) (t : Nat) (w : World) (h : ReadAt rb b s bad wrong w) (hs : (s.size : Int) ≤ 100000000)
    (hc : w.heap[cb]? = some (.cells cs t (0, 0))) (hf : f < cs.size) (hcb : cb ≠ b) (hcr : cb ≠ rb) :
    Calls Try.prog 89 #[.pointer (some ⟨rb, 0, none⟩), .pointer (some ⟨cb, f, none⟩)] w fun e w' => e = .returned (.tuple #[]) ∧
      ReadAt rb b (textE s bad 1024).2.2.1 (textE s bad 1024).2.2.2 wrong w' ∧ w'.heap[cb]? = some (.cells (cs.setIfInBounds f (.string (textE s bad 1024).1)) t (0, 0)) ∧ Out [b, cb] w w' := by
  obtain ⟨c0, c1, f1⟩ := h.cells
  have HN := Lib.hid (eye_text b s bad 1024 w h.2.1 hs)
  have H := Lib.hid h
  have HC := Lib.hid hc
  clear h hc
  generalize textE s bad 1024 = q at HN ⊢
  obtain ⟨n, ok, r, bd⟩ := q
  go_enter Try.func89, Try.ntmps89
  go_wp2_with (go_at_call 50; refine HN.out.mono ?_; rintro e w1 ⟨rfl, h1, h2⟩; have hc1 := (h2.block cb (lt_of_block HC.out) (by simpa using hcb)).trans HC.out; have hr1 := (h2.block rb (lt_of_block H.out.1) (by simpa using H.out.2.2)).trans H.out.1; obtain ⟨v, d0⟩ : ∃ v, w1.cell? ⟨cb, f, none⟩ = some v := ⟨cs[f], by rw [Lib.cell_of_heap hc1]; simp [hf]⟩; have g0 : w1.frozen? ⟨cb, f, none⟩ = false := Lib.frozen_of_heap hc1 f; have H1 := Lib.hid h1; have HC1 := Lib.hid hc1; have HR1 := Lib.hid hr1; clear h1 hc1 hr1)
  go_end0
  refine ⟨rfl, ⟨(Below.heap_setCell _ _ _ _ (Ne.symm hcr)).trans HR1.out, (Below.heap_setCell _ _ _ _ (Ne.symm hcb)).trans H1.out, H.out.2.2⟩, heap_set HC1.out f _, ?_⟩
  exact (h2.mono (by simp)).setCell (by simp) _
end Go.Proofs.Ytbedamkeeongfaa

namespace Go.Proofs.Ytbedamkeeongfaa
open Go.RowKit Go.Proofs.Ytbedamkeeongfaa.Mem
set_option linter.unusedVariables false

/-- what Byte gives -/
def byteE (s : ByteArray) (bad : Bool) : Nat := if bad = true ∨ s.size < 1 then 0 else (s.data.toList.getD 0 0).toNat

set_option maxRecDepth 100000 in
theorem reader_flag (rb b cb f : Nat) (s : ByteArray) (bad wrong : Bool) (cs : Array Value) (t : Nat) (w : World) (h : ReadAt rb b s bad wrong w) (hs : (s.size : Int) ≤ 100000000)
    (hc : w.heap[cb]? = some (.cells cs t (0, 0))) (hf : f < cs.size) (hcb : cb ≠ b) (hcr : cb ≠ rb) :
    Calls Try.prog 86 #[.pointer (some ⟨rb, 0, none⟩), .pointer (some ⟨cb, f, none⟩)] w fun e w' => e = .returned (.tuple #[]) ∧
      ReadAt rb b (takeE s bad 1).2.2.1 (takeE s bad 1).2.2.2 (wrong || decide ((1 : Int) < byteE s bad)) w' ∧ w'.heap[cb]? = some (.cells (cs.setIfInBounds f (.bool ((byteE s bad : Int) == 1))) t (0, 0)) ∧ Out [b, cb, rb] w w' := by
  obtain ⟨c0, c1, f1⟩ := h.cells
  have hby := eye_byte b s bad w h.2.1 hs
  have hv : (if bad = true ∨ s.size < 1 then (0 : Int) else (s.data.toList.getD 0 0).toNat) = (byteE s bad : Int) := by unfold byteE; split <;> rfl
  rw [hv] at hby
  generalize byteE s bad = x at hby ⊢
  generalize takeE s bad 1 = q at hby ⊢
  obtain ⟨n, ok, r, bd⟩ := q
  have HN := Lib.hid hby
  have H := Lib.hid h
  have HC := Lib.hid hc
  clear h hc hby hv
  cases wrong
  · go_enter Try.func86, Try.ntmps86
    go_wp2_with (go_at_call 40; refine HN.out.mono ?_; rintro e w1 ⟨rfl, h1, h2⟩; have hc1 := (h2.block cb (lt_of_block HC.out) (by simpa using hcb)).trans HC.out; have hr1 := (h2.block rb (lt_of_block H.out.1) (by simpa using H.out.2.2)).trans H.out.1; obtain ⟨v, d0⟩ : ∃ v, w1.cell? ⟨cb, f, none⟩ = some v := ⟨cs[f], by rw [Lib.cell_of_heap hc1]; simp [hf]⟩; have g0 : w1.frozen? ⟨cb, f, none⟩ = false := Lib.frozen_of_heap hc1 f; have e1 : w1.cell? ⟨rb, 1, none⟩ = some (.bool false) := by { rw [Lib.cell_of_heap hr1]; rfl }; have e2 : w1.frozen? ⟨rb, 1, none⟩ = false := Lib.frozen_of_heap hr1 1; have H1 := Lib.hid h1; have HC1 := Lib.hid hc1; have HR1 := Lib.hid hr1; clear h1 hc1 hr1)
    go_end0
    refine ⟨rfl, ⟨?_, (Below.heap_setCell _ _ _ _ (Ne.symm H.out.2.2)).trans ((Below.heap_setCell _ _ _ _ (Ne.symm hcb)).trans H1.out), H.out.2.2⟩, ?_, ?_⟩
    · have h5 : (w1.setCell ⟨cb, f, none⟩ (.bool ((x : Int) == 1))).heap[rb]? = some (.cells #[.pointer (some ⟨b, 0, none⟩), .bool false] 73 (0, 0)) := (Below.heap_setCell _ _ _ _ (Ne.symm hcr)).trans HR1.out
      have := heap_set h5 1 (.bool (false || decide ((1 : Int) < x)))
      simpa using this
    · exact (Below.heap_setCell _ _ _ _ hcr).trans (heap_set HC1.out f _)
    · exact ((h2.mono (by simp)).setCell (by simp) _).setCell (by simp) _
  · go_enter Try.func86, Try.ntmps86
    go_wp2_with (go_at_call 40; refine HN.out.mono ?_; rintro e w1 ⟨rfl, h1, h2⟩; have hc1 := (h2.block cb (lt_of_block HC.out) (by simpa using hcb)).trans HC.out; have hr1 := (h2.block rb (lt_of_block H.out.1) (by simpa using H.out.2.2)).trans H.out.1; obtain ⟨v, d0⟩ : ∃ v, w1.cell? ⟨cb, f, none⟩ = some v := ⟨cs[f], by rw [Lib.cell_of_heap hc1]; simp [hf]⟩; have g0 : w1.frozen? ⟨cb, f, none⟩ = false := Lib.frozen_of_heap hc1 f; have e1 : w1.cell? ⟨rb, 1, none⟩ = some (.bool true) := by { rw [Lib.cell_of_heap hr1]; rfl }; have e2 : w1.frozen? ⟨rb, 1, none⟩ = false := Lib.frozen_of_heap hr1 1; have H1 := Lib.hid h1; have HC1 := Lib.hid hc1; have HR1 := Lib.hid hr1; clear h1 hc1 hr1)
    go_end0
    refine ⟨rfl, ⟨?_, (Below.heap_setCell _ _ _ _ (Ne.symm H.out.2.2)).trans ((Below.heap_setCell _ _ _ _ (Ne.symm hcb)).trans H1.out), H.out.2.2⟩, ?_, ?_⟩
    · have h5 : (w1.setCell ⟨cb, f, none⟩ (.bool ((x : Int) == 1))).heap[rb]? = some (.cells #[.pointer (some ⟨b, 0, none⟩), .bool true] 73 (0, 0)) := (Below.heap_setCell _ _ _ _ (Ne.symm hcr)).trans HR1.out
      have := heap_set h5 1 (.bool (true || decide ((1 : Int) < x)))
      simpa using this
    · exact (Below.heap_setCell _ _ _ _ hcr).trans (heap_set HC1.out f _)
    · exact ((h2.mono (by simp)).setCell (by simp) _).setCell (by simp) _
end Go.Proofs.Ytbedamkeeongfaa

namespace Go.Proofs.Ytbedamkeeongfaa
open Go.RowKit Go.Proofs.Ytbedamkeeongfaa.Mem
set_option linter.unusedVariables false

theorem elemInt : ElemT Try.prog 22 3 1 8 (.int .i64 0) := ⟨Try.underlying22, by kernel_rfl, rfl, by decide⟩

/-- the eye behind k numbers -/
def rdS (s : ByteArray) (bad : Bool) : Nat → ByteArray × Bool
  | 0 => (s, bad)
  | k + 1 => (numE (rdS s bad k).1 (rdS s bad k).2 4294967295).2
/-- the first k numbers -/
def rdL (s : ByteArray) (bad : Bool) : Nat → List Int
  | 0 => []
  | k + 1 => rdL s bad k ++ [(numE (rdS s bad k).1 (rdS s bad k).2 4294967295).1 - 2147483648]
theorem rdL_len (s : ByteArray) (bad : Bool) : ∀ k, (rdL s bad k).length = k
  | 0 => rfl
  | k + 1 => by simp [rdL, rdL_len s bad k]
theorem rdS_size (s : ByteArray) (bad : Bool) : ∀ k, (rdS s bad k).1.size ≤ s.size
  | 0 => Nat.le_refl _
  | k + 1 => Nat.le_trans (numE_size _ _ _) (rdS_size s bad k)
/-- what a row read gives: the row, what is left, whether it is bad -/
def rowE (s : ByteArray) (bad : Bool) : List Int × ByteArray × Bool :=
  let q := numE s bad 32
  (rdL q.2.1 q.2.2 q.1.toNat, rdS q.2.1 q.2.2 q.1.toNat)

/-- what the loop keeps -/
structure RowInv (rb b cb f : Nat) (s : ByteArray) (bad wrong : Bool) (cs : Array Value) (t : Nat) (w : World) (k : Nat) (wr : World) : Prop where
  rd : ReadAt rb b (rdS s bad k).1 (rdS s bad k).2 wrong wr
  val : ∃ v, wr.heap[cb]? = some (.cells (cs.setIfInBounds f v) t (0, 0)) ∧ wr.ownsRow w.heap.size 3 1 v (rdL s bad k).length ((rdL s bad k).map (.int .i64))
  out : Out [b, cb] w wr

theorem numE_le (s : ByteArray) (bad : Bool) (most : Int) (h : 0 ≤ most) : (numE s bad most).1 ≤ most := by
  unfold numE
  split
  · exact h
  · split
    · exact h
    · simp only; omega

theorem set_same {cs : Array Value} {f : Nat} {v : Value} (h : cs[f]? = some v) : cs.setIfInBounds f v = cs := by
  apply Array.ext_getElem?
  intro i
  rw [Array.getElem?_setIfInBounds]
  split
  · rename_i e
    subst e
    split
    · exact h.symm
    · rename_i hn
      rw [Array.getElem?_eq_none (by omega)]
  · rfl

/-- one number more -/
theorem RowInv.app {rb b cb f : Nat} {s : ByteArray} {bad wrong : Bool} {cs : Array Value} {t : Nat} {w : World} {k : Nat} {wr w2 w3 : World} {v : Value} {g cap : Nat} {x : Int} {o1 : Obj}
    (h : RowInv rb b cb f s bad wrong cs t w k wr) (hrb : rb < w.heap.size) (hb : b < w.heap.size) (hcb : cb < w.heap.size) (hcr : cb ≠ rb) (hce : cb ≠ b)
    (hv : wr.heap[cb]? = some (.cells (cs.setIfInBounds f v) t (0, 0))) (hown : wr.ownsRow w.heap.size 3 1 v (rdL s bad k).length ((rdL s bad k).map (.int .i64)))
    (hx : (numE (rdS s bad k).1 (rdS s bad k).2 4294967295).1 - 2147483648 = x)
    (h3 : ReadAt rb b (numE (rdS s bad k).1 (rdS s bad k).2 4294967295).2.1 (numE (rdS s bad k).1 (rdS s bad k).2 4294967295).2.2 wrong w2) (h5 : Out [b, wr.heap.size] (wr.alloc o1) w2)
    (hown3 : w3.ownsRow w.heap.size 3 1 (.slice (some ⟨g, 0, none⟩) ((rdL s bad k).length + 1) cap) ((rdL s bad k).length + 1) ((rdL s bad k).map (.int .i64) ++ [.int .i64 x])) (hgrow3 : w2.grownBy w3 v.ownBlock) :
    RowInv rb b cb f s bad wrong cs t w (k + 1) (w3.setCell ⟨cb, f, none⟩ (.slice (some ⟨g, 0, none⟩) ((rdL s bad k).length + 1) cap)) := by
  have hlo : ∀ j, v.ownBlock = some j → w.heap.size ≤ j := fun j hj => (hown.lt j hj).1
  have hsz := h.out.size
  have h5s := h5.size
  simp at h5s
  have hcb2 : w2.heap[cb]? = some (.cells (cs.setIfInBounds f v) t (0, 0)) := by
    rw [h5.block cb (by simp; omega) (by simp; omega), Below.heap_alloc _ _ _ (by omega)]
    exact hv
  have hcb3 := (hgrow3.block cb (by omega) (fun e => by have := hlo _ e.symm; omega)).trans hcb2
  have hrb3 := (hgrow3.block rb (by omega) (fun e => by have := hlo _ e.symm; omega)).trans h3.1
  have heb3 := (hgrow3.block b (by omega) (fun e => by have := hlo _ e.symm; omega)).trans h3.2.1
  have hg := (hown3.lt g rfl).1
  refine ⟨⟨(Below.heap_setCell _ _ _ _ (Ne.symm hcr)).trans hrb3, (Below.heap_setCell _ _ _ _ (Ne.symm hce)).trans heb3, h3.2.2⟩, ⟨.slice (some ⟨g, 0, none⟩) ((rdL s bad k).length + 1) cap, ?_, ?_⟩, ?_⟩
  · have := heap_set hcb3 f (.slice (some ⟨g, 0, none⟩) ((rdL s bad k).length + 1) cap)
    rw [Array.setIfInBounds_setIfInBounds] at this
    exact this
  · have h6 := ownsRow_setCell_other hown3 (a := ⟨cb, f, none⟩) (by simp [Value.ownBlock]; omega) (.slice (some ⟨g, 0, none⟩) ((rdL s bad k).length + 1) cap)
    have e1 : rdL s bad (k + 1) = rdL s bad k ++ [x] := by rw [rdL, hx]
    rw [e1, List.length_append, List.map_append]
    exact h6
  · have h7 : Out [b, cb] w w2 := (h.out.alloc o1).trans h5 (by intro y hy; simp at hy; rcases hy with rfl | rfl; exact .inl (by simp); exact .inr hsz)
    exact (h7.grown hgrow3 (fun j hj => .inr (hlo j hj))).setCell (by simp) _

set_option maxRecDepth 100000 in
set_option maxHeartbeats 1000000 in
theorem reader_row (rb b cb f : Nat) (s : ByteArray) (bad wrong : Bool) (cs : Array Value) (t : Nat) (w : World) (h : ReadAt rb b s bad wrong w) (hs : (s.size : Int) ≤ 100000000)
    (hc : w.heap[cb]? = some (.cells cs t (0, 0))) (hf : f < cs.size) (hv0 : cs[f]? = some (.slice none 0 0)) (hcb : cb ≠ b) (hcr : cb ≠ rb) :
    Calls Try.prog 88 #[.pointer (some ⟨rb, 0, none⟩), .pointer (some ⟨cb, f, none⟩)] w fun e w' => e = .returned (.tuple #[]) ∧
      RowInv rb b cb f (numE s bad 32).2.1 (numE s bad 32).2.2 wrong cs t w (numE s bad 32).1.toNat w' := by
  obtain ⟨c0, c1, f1⟩ := h.cells
  have HN := Lib.hid (eye_num b s bad 32 w h.2.1 hs)
  have H := Lib.hid h
  have HC := Lib.hid hc
  have hp := numE_pos s bad 32
  have hp2 := numE_le s bad 32 (by decide)
  have hz := numE_size s bad 32
  have hcl := lt_of_block hc
  have hrl := lt_of_block h.1
  have hel := lt_of_block h.2.1
  clear h hc
  generalize numE s bad 32 = q at HN hp hp2 hz ⊢
  obtain ⟨n0, r, bd⟩ := q
  simp only at hp hp2 hz
  obtain ⟨n, rfl⟩ : ∃ n : Nat, n0 = n := ⟨n0.toNat, by omega⟩
  simp only [Int.toNat_natCast]
  go_enter Try.func88, Try.ntmps88
  go_wp2_with (go_at_call 49; refine HN.out.mono ?_; rintro e w1 ⟨rfl, h1, h2⟩; have hc1 := (h2.block cb (lt_of_block HC.out) (by simpa using hcb)).trans HC.out; have hr1 := (h2.block rb (lt_of_block H.out.1) (by simpa using H.out.2.2)).trans H.out.1; have H1 := Lib.hid h1; have HC1 := Lib.hid hc1; have HR1 := Lib.hid hr1; clear h1 hc1 hr1)
  go_loopw [10] (fun i wr => ∃ k : Nat, k ≤ n ∧ i = .int .i64 k ∧ RowInv rb b cb f r bd wrong cs t w k wr) (fun i _ => n - (intOf i).toNat)
  case atStart =>
    refine ⟨0, by omega, rfl, ⟨HR1.out, H1.out, H.out.2.2⟩, ⟨.slice none 0 0, ?_, World.ownsRow_nil _ _ _ _⟩, h2.mono (by simp)⟩
    rw [set_same hv0]
    exact HC1.out
  case round =>
    obtain ⟨k, hk, rfl, hR⟩ := hrel
    have HI := Lib.hid hR
    by_cases hlt : k < n
    · obtain ⟨v, hvb, hown⟩ := hR.val
      have hL := rdL_len r bd k
      have hrs := rdS_size r bd k
      have hrd := hR.rd
      have hsz := hR.out.size
      obtain ⟨va, vc, rfl, hvc, hva⟩ := own_slice hown
      have hcw : cb < wr.heap.size := lt_of_block hvb
      have hnum := reader_num rb b wr.heap.size 0 (rdS r bd k).1 (rdS r bd k).2 wrong #[.int .i64 0] 3 (wr.alloc (.cells #[.int .i64 0] 3))
        ⟨(Below.heap_alloc _ _ _ (lt_of_block hrd.1)).trans hrd.1, (Below.heap_alloc _ _ _ (lt_of_block hrd.2.1)).trans hrd.2.1, hrd.2.2⟩ (by omega) (heap_alloc_new _ _) (by decide) (by omega) (by omega)
      obtain ⟨x, hx⟩ : ∃ x, (numE (rdS r bd k).1 (rdS r bd k).2 4294967295).1 - 2147483648 = x := ⟨_, rfl⟩
      rw [hx] at hnum
      have HX := Lib.hid hx
      have HNM := Lib.hid hnum
      have HVB := Lib.hid hvb
      have HOW := Lib.hid hown
      obtain ⟨l, hl⟩ : ∃ l, (rdL r bd k).length = l := ⟨_, rfl⟩
      have hl40 : l < 40 := by omega
      have HL := Lib.hid hl
      have hfs : f < (cs.setIfInBounds f (.slice va l vc)).size := by rw [Array.size_setIfInBounds]; exact hf
      rw [hl] at HVB HOW hvc hva
      clear hR hx hnum hvb hown hrd hL hl hva hrs hv0
      go_wp2_with (go_at_call 87; refine HNM.out.mono ?_; rintro e w2 ⟨rfl, h3, h4, h5⟩; have hs5 := h5.size; have hb2 : w2.heap[cb]? = some (.cells (cs.setIfInBounds f (.slice va l vc)) t (0, 0)) := ((h5.block cb (by simp; omega) (by simp; omega)).trans (Below.heap_alloc _ _ _ hcw)).trans HVB.out; have H3 := Lib.hid h3; have H5 := Lib.hid h5; have H4 := Lib.hid h4; have HB2 := Lib.hid hb2; clear h3 h5 h4 hb2)
      have hcw2 : cb < w2.heap.size := by simp at hs5; omega
      have hnw2 : wr.heap.size < w2.heap.size := by simp at hs5; omega
      have e0 : w2.cell? ⟨cb, f, none⟩ = some (.slice va l vc) := by rw [Lib.cell_of_heap HB2.out]; simp [hf]
      have e1 : w2.cell? ⟨wr.heap.size, 0, none⟩ = some (.int .i64 x) := by rw [Lib.cell_of_heap H4.out]; rfl
      have hown2 : w2.ownsRow w.heap.size 3 1 (.slice va l vc) l ((rdL r bd k).map (.int .i64)) := by
        refine own_out ((HOW.out).alloc _) H5.out ?_
        intro j hj hm
        have h1 := HOW.out.lt j hj
        simp at hm
        rcases hm with rfl | rfl
        · omega
        · omega
      have hx1 : ∀ o, (w2.alloc o).drew.ownsRow w.heap.size 3 1 (.slice va l vc) l ((rdL r bd k).map (.int .i64)) := fun o => (hown2.alloc o).drew
      have hx2 : ∀ j u, [Value.int .i64 x][j]? = some u → (w2.alloc (.cells #[.int .i64 x] 3)).drew.cell? ((⟨w2.heap.size, 0, none⟩ : Addr).add j) = some u := by
        intro j u hj
        match j, hj with
        | 0, hj => simp at hj; subst hj; show (w2.alloc _).cell? _ = _; rw [Addr.add_lit, World.cell?_alloc_at _ _ _ _ rfl]; rfl
      have hx4 : ∀ o, w.heap.size ≤ (w2.alloc o).drew.heap.size := by intro o; show _ ≤ (w2.alloc o).heap.size; simp; omega
      have hx5 : ∀ o w3, (w2.alloc o).drew.grownBy w3 (Value.slice va l vc).ownBlock → w2.grownBy w3 (Value.slice va l vc).ownBlock := fun o w3 h => grownBy_trans (World.grownBy_alloc w2 o _) ⟨h.os, h.tape, h.output, h.size, h.block⟩
      have hx6 : ∀ w3, w2.grownBy w3 (Value.slice va l vc).ownBlock → w3.frozen? ⟨cb, f, none⟩ = false ∧ w3.cell? ⟨cb, f, none⟩ = some (.slice va l vc) := by
        intro w3 hg
        have := (hg.block cb hcw2 (fun e => by have := (HOW.out.lt _ e.symm).1; omega)).trans HB2.out
        refine ⟨Lib.frozen_of_heap this f, ?_⟩
        rw [Lib.cell_of_heap this]; simp [hf]
      have X1 := Lib.hid hx1; have X2 := Lib.hid hx2; have X4 := Lib.hid hx4; have X5 := Lib.hid hx5; have X6 := Lib.hid hx6
      clear hx1 hx2 hx4 hx5 hx6 hown2 hs5
      go_region_law (refine step_app rfl _ _ 22 rfl elemInt w.heap.size (.slice va l vc) l ((rdL r bd k).map (.int .i64)) rfl (X1.out _) _ 1 1 [.int .i64 x] rfl rfl X2.out rfl (by decide) (by omega) (by decide) (X4.out _) ?_; intro g cap w3 hown3 hgrow3 hg3; obtain ⟨f2, d2⟩ := X6.out _ (X5.out _ _ hgrow3); have HW := Lib.hid hown3; have HG := Lib.hid (X5.out _ _ hgrow3); clear hown3 hgrow3)
      all_goals
        go_wp2
        go_roundw
        case rel =>
          refine ⟨k + 1, by omega, by go_num, ?_⟩
          have hl := HL.out
          subst hl
          exact HI.out.app hrl hel hcl hcr hcb HVB.out HOW.out HX.out H3.out H5.out HW.out HG.out
        case measure => simp [intOf]; omega
    · obtain rfl : k = n := by omega
      clear hR
      go_wp2
      go_end0
      exact ⟨rfl, HI.out⟩
end Go.Proofs.Ytbedamkeeongfaa

namespace Go.Proofs.Ytbedamkeeongfaa
open Go.RowKit Go.Proofs.Ytbedamkeeongfaa.Mem
set_option linter.unusedVariables false

theorem reader_vis (b : Nat) : Vis 69 (.pointer (some ⟨b, 0, none⟩)) (.pointer (some ⟨b, 0, none⟩)) 87 86 88 89 where
  nn := fun w => by kernel_rfl
  nf := fun w => by kernel_rfl
  nr := fun w => by kernel_rfl
  nt := fun w => by kernel_rfl
  hn := fun w => by kernel_rfl
  hf := fun w => by kernel_rfl
  hr := fun w => by kernel_rfl
  ht := fun w => by kernel_rfl
  en := fun args w => Go.Proofs.enters_of Try.func87 (by kernel_rfl) rfl args w
  ef := fun args w => Go.Proofs.enters_of Try.func86 (by kernel_rfl) rfl args w
  er := fun args w => Go.Proofs.enters_of Try.func88 (by kernel_rfl) rfl args w
  et := fun args w => Go.Proofs.enters_of Try.func89 (by kernel_rfl) rfl args w

/-- where reading stands: what is left, whether it is bad, whether a flag was none, what has been read -/
structure Rd where
  s : ByteArray
  bad : Bool
  wrong : Bool
  c : Cmd
/-- a field read -/
def Rd.step (x : Rd) (f : Nat) : Rd :=
  if f = 1 then ⟨(numE x.s x.bad 4294967295).2.1, (numE x.s x.bad 4294967295).2.2, x.wrong, { x.c with id := (numE x.s x.bad 4294967295).1 - 2147483648 }⟩
  else if f = 2 then ⟨(numE x.s x.bad 4294967295).2.1, (numE x.s x.bad 4294967295).2.2, x.wrong, { x.c with n := (numE x.s x.bad 4294967295).1 - 2147483648 }⟩
  else if f = 3 then ⟨(takeE x.s x.bad 1).2.2.1, (takeE x.s x.bad 1).2.2.2, x.wrong || decide ((1 : Int) < byteE x.s x.bad), { x.c with good := (byteE x.s x.bad : Int) == 1 }⟩
  else if f = 4 then ⟨(rowE x.s x.bad).2.1, (rowE x.s x.bad).2.2, x.wrong, { x.c with pr := (rowE x.s x.bad).1 }⟩
  else if f = 5 then ⟨(rowE x.s x.bad).2.1, (rowE x.s x.bad).2.2, x.wrong, { x.c with dr := (rowE x.s x.bad).1 }⟩
  else ⟨(textE x.s x.bad 1024).2.2.1, (textE x.s x.bad 1024).2.2.2, x.wrong, { x.c with data := (textE x.s x.bad 1024).1 }⟩
/-- several fields read -/
def Rd.steps (x : Rd) (fs : List Nat) : Rd := fs.foldl Rd.step x
theorem Rd.steps_snoc (x : Rd) (fs : List Nat) (f : Nat) : x.steps (fs ++ [f]) = (x.steps fs).step f := by simp [Rd.steps]

theorem takeE_size (s : ByteArray) (bad : Bool) (n : Nat) : (takeE s bad n).2.2.1.size ≤ s.size := by
  unfold takeE
  split
  · exact Nat.zero_le _
  · rw [ByteArray.size_extract]; omega
theorem rowE_size (s : ByteArray) (bad : Bool) : (rowE s bad).2.1.size ≤ s.size := by
  unfold rowE
  exact Nat.le_trans (rdS_size _ _ _) (numE_size _ _ _)
theorem textE_size (s : ByteArray) (bad : Bool) (m : Int) : (textE s bad m).2.2.1.size ≤ s.size := by
  unfold textE
  exact Nat.le_trans (takeE_size _ _ _) (numE_size _ _ _)

/-- what the visit keeps -/
structure RInv (x : Rd) (B rb b cb : Nat) (w0 : World) (fs : List Nat) (w : World) : Prop where
  rd : ReadAt rb b (x.steps fs).s (x.steps fs).bad (x.steps fs).wrong w
  val : ∃ p d, w.heap[cb]? = some (.cells ((x.steps fs).c.vals p d) 24 (0, 0)) ∧ w.ownsRow B 3 1 p (x.steps fs).c.pr.length ((x.steps fs).c.pr.map (.int .i64)) ∧ w.ownsRow B 3 1 d (x.steps fs).c.dr.length ((x.steps fs).c.dr.map (.int .i64)) ∧
    (4 ∉ fs → p = .slice none 0 0) ∧ (5 ∉ fs → d = .slice none 0 0)
  kind : (x.steps fs).c.kind = x.c.kind
  size : (x.steps fs).s.size ≤ x.s.size
  rl : (x.steps fs).c.pr.length ≤ 32 ∧ (x.steps fs).c.dr.length ≤ 32
  out : Out [b, cb, rb] w0 w

theorem own_keep {S : List Nat} {w w' : World} {B e : Nat} {v : Value} {n : Nat} {xs : List Value} (h : w.ownsRow B e 1 v n xs) (ho : Out S w w') (hS : ∀ k ∈ S, k < B) : w'.ownsRow B e 1 v n xs :=
  own_out h ho (fun k hk hm => by have := (h.lt k hk).1; have := hS k hm; omega)

theorem own_mono {w : World} {B B' e size : Nat} {v : Value} {n : Nat} {xs : List Value} (h : w.ownsRow B e size v n xs) (hB : B' ≤ B) : w.ownsRow B' e size v n xs := by
  refine ⟨h.1, ?_⟩
  rcases h.2 with h1 | ⟨g, cap, cur, h1, h2, h3⟩
  · exact .inl h1
  · exact .inr ⟨g, cap, cur, h1, Nat.le_trans hB h2, h3⟩

theorem vals_size (c : Cmd) (p d : Value) : (c.vals p d).size = 7 := rfl

theorem visit_read (x : Rd) (B rb b cb : Nat) (w : World) (hs : (x.s.size : Int) ≤ 100000000) (hB : b < B ∧ cb < B ∧ rb < B) (hBw : B ≤ w.heap.size) (hcb : cb ≠ b) (hcr : cb ≠ rb) (h : RInv x B rb b cb w [] w) :
    Calls Try.prog 28 #[.pointer (some ⟨cb, 0, none⟩), .iface 69 (.pointer (some ⟨rb, 0, none⟩))] w fun e w' => e = .returned (.tuple #[]) ∧ RInv x B rb b cb w (fieldsOf x.c.kind) w' := by
  have hS2 : ∀ k ∈ [b, cb], k < B := by intro k hk; simp at hk; omega
  have hS3 : ∀ k ∈ [b, cb, rb], k < B := by intro k hk; simp at hk; omega
  refine visit_any _ _ _ _ _ _ _ (reader_vis rb) cb x.c.kind (RInv x B rb b cb w) ?_ ?_ ?_ ?_ ?_ ?_ w h
  · rintro fs w' ⟨h1, ⟨p, d, h2, h3, h4, h5⟩, h6, h7, hl, h8⟩
    exact ⟨h1, ⟨p, d, h2, h3.drew, h4.drew, h5⟩, h6, h7, hl, h8.drew⟩
  · rintro w' ⟨h1, ⟨p, d, h2, h3, h4, h5⟩, h6, h7, hl, h8⟩
    exact (cmd_cells h2).1
  · rintro fs f w' hff _ ⟨h1, ⟨p, d, h2, h3, h4, h5, h5'⟩, h6, h7, hl, h8⟩
    generalize hq : x.steps fs = q at h1 h2 h3 h4 h6 h7 hl
    refine (reader_num rb b cb f q.s q.bad q.wrong _ _ w' h1 (by omega) h2 (by rw [vals_size]; omega) hcb hcr).mono ?_
    rintro e w2 ⟨rfl, h9, h10, h11⟩
    refine ⟨rfl, ?_⟩
    have hn := numE_size q.s q.bad 4294967295
    rcases hff with rfl | rfl
    · exact ⟨by rw [Rd.steps_snoc, hq]; exact h9, ⟨p, d, by rw [Rd.steps_snoc, hq]; exact h10, by rw [Rd.steps_snoc, hq]; exact own_keep h3 h11 hS2, by rw [Rd.steps_snoc, hq]; exact own_keep h4 h11 hS2, fun hm => h5 (fun h => hm (by simp [h])), fun hm => h5' (fun h => hm (by simp [h]))⟩,
        by rw [Rd.steps_snoc, hq]; exact h6, by rw [Rd.steps_snoc, hq]; exact Nat.le_trans hn h7, by rw [Rd.steps_snoc, hq]; exact hl, h8.trans h11 (by intro y hy; simp at hy; rcases hy with rfl | rfl <;> simp)⟩
    · exact ⟨by rw [Rd.steps_snoc, hq]; exact h9, ⟨p, d, by rw [Rd.steps_snoc, hq]; exact h10, by rw [Rd.steps_snoc, hq]; exact own_keep h3 h11 hS2, by rw [Rd.steps_snoc, hq]; exact own_keep h4 h11 hS2, fun hm => h5 (fun h => hm (by simp [h])), fun hm => h5' (fun h => hm (by simp [h]))⟩,
        by rw [Rd.steps_snoc, hq]; exact h6, by rw [Rd.steps_snoc, hq]; exact Nat.le_trans hn h7, by rw [Rd.steps_snoc, hq]; exact hl, h8.trans h11 (by intro y hy; simp at hy; rcases hy with rfl | rfl <;> simp)⟩
  · rintro fs w' _ ⟨h1, ⟨p, d, h2, h3, h4, h5, h5'⟩, h6, h7, hl, h8⟩
    generalize hq : x.steps fs = q at h1 h2 h3 h4 h6 h7 hl
    refine (reader_flag rb b cb 3 q.s q.bad q.wrong _ _ w' h1 (by omega) h2 (by rw [vals_size]; omega) hcb hcr).mono ?_
    rintro e w2 ⟨rfl, h9, h10, h11⟩
    refine ⟨rfl, ?_⟩
    have hn := takeE_size q.s q.bad 1
    exact ⟨by rw [Rd.steps_snoc, hq]; exact h9, ⟨p, d, by rw [Rd.steps_snoc, hq]; exact h10, by rw [Rd.steps_snoc, hq]; exact own_keep h3 h11 hS3, by rw [Rd.steps_snoc, hq]; exact own_keep h4 h11 hS3, fun hm => h5 (fun h => hm (by simp [h])), fun hm => h5' (fun h => hm (by simp [h]))⟩,
        by rw [Rd.steps_snoc, hq]; exact h6, by rw [Rd.steps_snoc, hq]; exact Nat.le_trans hn h7, by rw [Rd.steps_snoc, hq]; exact hl, h8.trans h11 (by intro y hy; simp at hy; rcases hy with rfl | rfl | rfl <;> simp)⟩
  · rintro fs f w' hff _ hnf ⟨h1, ⟨p, d, h2, h3, h4, h5, h5'⟩, h6, h7, hl, h8⟩
    generalize hq : x.steps fs = q at h1 h2 h3 h4 h6 h7 hl
    have hv0 : (q.c.vals p d)[f]? = some (.slice none 0 0) := by
      rcases hff with rfl | rfl
      · rw [h5 hnf]; rfl
      · rw [h5' hnf]; rfl
    refine (reader_row rb b cb f q.s q.bad q.wrong _ _ w' h1 (by omega) h2 (by rw [vals_size]; omega) hv0 hcb hcr).mono ?_
    rintro e w2 ⟨rfl, h9, ⟨v, h10, h12⟩, h11⟩
    refine ⟨rfl, ?_⟩
    have hn := rowE_size q.s q.bad
    have h13 : w2.ownsRow B 3 1 v (rowE q.s q.bad).1.length ((rowE q.s q.bad).1.map (.int .i64)) := by
      have := h8.size
      exact own_mono h12 (by omega)
    have h14 : (rowE q.s q.bad).1.length ≤ 32 := by
      have h1 : (rowE q.s q.bad).1.length = (numE q.s q.bad 32).1.toNat := rdL_len _ _ _
      have h2 := numE_le q.s q.bad 32 (by decide)
      omega
    rcases hff with rfl | rfl
    · exact ⟨by rw [Rd.steps_snoc, hq]; exact h9, ⟨v, d, by rw [Rd.steps_snoc, hq]; exact h10, by rw [Rd.steps_snoc, hq]; exact h13, by rw [Rd.steps_snoc, hq]; exact own_keep h4 h11 hS2, fun hm => absurd (by simp) hm, fun hm => h5' (fun h => hm (by simp [h]))⟩,
        by rw [Rd.steps_snoc, hq]; exact h6, by rw [Rd.steps_snoc, hq]; exact Nat.le_trans hn h7, by rw [Rd.steps_snoc, hq]; exact ⟨h14, hl.2⟩, h8.trans h11 (by intro y hy; simp at hy; rcases hy with rfl | rfl <;> simp)⟩
    · exact ⟨by rw [Rd.steps_snoc, hq]; exact h9, ⟨p, v, by rw [Rd.steps_snoc, hq]; exact h10, by rw [Rd.steps_snoc, hq]; exact own_keep h3 h11 hS2, by rw [Rd.steps_snoc, hq]; exact h13, fun hm => h5 (fun h => hm (by simp [h])), fun hm => absurd (by simp) hm⟩,
        by rw [Rd.steps_snoc, hq]; exact h6, by rw [Rd.steps_snoc, hq]; exact Nat.le_trans hn h7, by rw [Rd.steps_snoc, hq]; exact ⟨hl.1, h14⟩, h8.trans h11 (by intro y hy; simp at hy; rcases hy with rfl | rfl <;> simp)⟩
  · rintro fs w' _ ⟨h1, ⟨p, d, h2, h3, h4, h5, h5'⟩, h6, h7, hl, h8⟩
    generalize hq : x.steps fs = q at h1 h2 h3 h4 h6 h7 hl
    refine (reader_text rb b cb 6 q.s q.bad q.wrong _ _ w' h1 (by omega) h2 (by rw [vals_size]; omega) hcb hcr).mono ?_
    rintro e w2 ⟨rfl, h9, h10, h11⟩
    refine ⟨rfl, ?_⟩
    have hn := textE_size q.s q.bad 1024
    exact ⟨by rw [Rd.steps_snoc, hq]; exact h9, ⟨p, d, by rw [Rd.steps_snoc, hq]; exact h10, by rw [Rd.steps_snoc, hq]; exact own_keep h3 h11 hS2, by rw [Rd.steps_snoc, hq]; exact own_keep h4 h11 hS2, fun hm => h5 (fun h => hm (by simp [h])), fun hm => h5' (fun h => hm (by simp [h]))⟩,
        by rw [Rd.steps_snoc, hq]; exact h6, by rw [Rd.steps_snoc, hq]; exact Nat.le_trans hn h7, by rw [Rd.steps_snoc, hq]; exact hl, h8.trans h11 (by intro y hy; simp at hy; rcases hy with rfl | rfl <;> simp)⟩
end Go.Proofs.Ytbedamkeeongfaa
