/- Contracts for ZoneApart: Disk.Read and Disk.Loose over what a disk shows, Zone.Part. -/
import Derived.Test.YtlfeedjgimnahaaZe
namespace Go.Proofs.Ytlfeedjgimnahaa
open Go.RowKit Go.Proofs.Ytlfeedjgimnahaa.Mem
set_option linter.unusedVariables false

variable {B b : Nat} {w0 w : World} {Z : List (Nat × Int × Int)} {V : List ByteArray} {m : Nat}
theorem vdread (h : OwnV B w0 b Z V m w) (i : Nat) (hi : i < V.length) :
    Calls Try.prog 23 #[.pointer (some ⟨b, 0, none⟩), .int .i64 i] w fun e w' => e = .returned (.tuple #[.string (V.getD i .empty), .int .i64 0]) ∧ OwnV B w0 b Z V m w' := by
  obtain ⟨D, h1, h2⟩ := h
  obtain ⟨S, k, _⟩ := h1.dk
  refine (read_dk k h2.on i (by rw [h2.len]; exact hi)).mono fun e w' ⟨e1, e2⟩ => ⟨?_, D, h1.below e2, h2⟩
  rw [e1, h2.rd i hi]
theorem vloose (h : OwnV B w0 b Z V m w) : Calls Try.prog 25 #[.pointer (some ⟨b, 0, none⟩)] w fun e w' => e = .returned (.int .i64 m) ∧ w = w' := by
  obtain ⟨D, h1, h2⟩ := h
  refine (loose_own h1.toD).mono fun e w' ⟨e1, e2⟩ => ⟨by rw [e1, h2.ll], e2⟩

set_option maxHeartbeats 1000000 in
theorem vpart (h : OwnV B w0 b Z V m w) (zb f s : Nat) (hz : (zb, (f : Int), (s : Int)) ∈ Z) (hn : V.length ≤ 1000) (f2 s2 : Nat) (hs2 : 1 ≤ s2) (hfs2 : f2 + s2 ≤ s) (hfs : f + s ≤ V.length) :
    Calls Try.prog 24 #[.pointer (some ⟨zb, 0, none⟩), .int .i64 f2, .int .i64 s2] w fun e w' => ∃ zp, e = .returned (.tuple #[.pointer (some ⟨zp, 0, none⟩), .int .i64 0]) ∧ OwnV B w0 b ((zp, ((f + f2 : Nat) : Int), (s2 : Int)) :: Z) V m w' := by
  have hzb := h.zn _ hz
  have c0 : w.cell? ⟨zb, 0, none⟩ = some (.pointer (some ⟨b, 0, none⟩)) := by simp [World.cell?, hzb, znRow]
  have c1 : w.cell? ⟨zb, 1, none⟩ = some (.int .i64 f) := by simp [World.cell?, hzb, znRow]
  have c2 : w.cell? ⟨zb, 2, none⟩ = some (.int .i64 s) := by simp [World.cell?, hzb, znRow]
  have hp := isPart_any f2 s2 s w (by omega) (by omega) (by omega) (by omega)
  rw [decide_eq_true (by omega)] at hp
  have hnew : ∀ w1, OwnV B w0 b Z V m w1 → Calls Try.prog 16 #[.pointer (some ⟨b, 0, none⟩), .int .i64 ((f : Int) + f2), .int .i64 s2] w1 fun e w' => e = .returned (.tuple #[.pointer (some ⟨w1.heap.size, 0, none⟩), .int .i64 0]) ∧ OwnV B w0 b ((w1.heap.size, ((f + f2 : Nat) : Int), (s2 : Int)) :: Z) V m w' := by
    intro w1 h1
    have := vnew h1 (f + f2) s2 (by omega) hs2 (by omega)
    rw [show ((f + f2 : Nat) : Int) = (f : Int) + f2 by omega] at this ⊢
    exact this
  have hw1 : IntKind.i64.wrap ((f : Int) + f2) = (f : Int) + f2 := IntWalk.i64_in _ (by omega)
  have H := Lib.hid h
  have HN := Lib.hid hnew
  clear h hnew hz hzb hfs2 hfs hn hs2
  go_enter Try.func24, Try.ntmps24
  go_wp2_with (go_at_call 35; refine hp.mono ?_; rintro e w1 ⟨rfl, rfl⟩)
  have hd := H.out.below (Below.refl w.heap.size w).drew
  have HD := Lib.hid hd
  clear hd
  go_region_with (go_at_call 16; (with_reducible refine (HN.out _ HD.out).mono ?_); rintro e w2 ⟨rfl, h2⟩; have H2 := Lib.hid h2; clear h2)
  all_goals
    go_wp2
    go_ret2
    exact ⟨_, rfl, H2.out⟩

theorem vpart_no (h : OwnV B w0 b Z V m w) (zb f s : Nat) (hz : (zb, (f : Int), (s : Int)) ∈ Z) (hs : s ≤ 1000000) (f2 s2 : Nat) (h2 : s < f2 + s2) (hf2 : f2 ≤ 1000000) :
    Calls Try.prog 24 #[.pointer (some ⟨zb, 0, none⟩), .int .i64 f2, .int .i64 s2] w fun e w' => e = .returned (.tuple #[.pointer none, .int .i64 1]) ∧ w = w' := by
  have hzb := h.zn _ hz
  have c2 : w.cell? ⟨zb, 2, none⟩ = some (.int .i64 s) := by simp [World.cell?, hzb, znRow]
  have hp := isPart_any f2 s2 s w (by omega) (by omega) (by omega) (by omega)
  rw [decide_eq_false (by omega)] at hp
  clear h hz hzb h2 hs hf2
  go_enter Try.func24, Try.ntmps24
  go_wp2_with (go_at_call 35; refine hp.mono ?_; rintro e w1 ⟨rfl, rfl⟩)
  go_ret2
  exact ⟨rfl, rfl⟩

/-- two rows of sectors that are alike in a part have the same bytes there -/
theorem joinN_congr (V V' : List ByteArray) (f : Nat) : ∀ k, (∀ j, j < k → V.getD (f + j) .empty = V'.getD (f + j) .empty) → joinN V f k = joinN V' f k
  | 0, _ => rfl
  | k + 1, h => by rw [joinN, joinN, joinN_congr V V' f k (fun j hj => h j (by omega)), h k (by omega)]
theorem joinN_add (V : List ByteArray) (f a : Nat) : ∀ k, joinN V f (a + k) = joinN V f a ++ joinN V (f + a) k
  | 0 => by simp [joinN]
  | k + 1 => by rw [← Nat.add_assoc, joinN, joinN_add V f a k, joinN, List.append_assoc, Nat.add_assoc]
end Go.Proofs.Ytlfeedjgimnahaa
