/- The law's function awake of the zones answers true; its helper makes a sector. -/
import Derived.Test.YtlfeedjgimnahaaZc
namespace Go.Proofs.Ytlfeedjgimnahaa
open Go.RowKit Go.Proofs.Ytlfeedjgimnahaa.Mem
set_option linter.unusedVariables false

set_option maxHeartbeats 1000000 in
theorem of5 (b : Int) (h0 : 0 ≤ b) (h1 : b ≤ 255) (w : World) :
    Calls Try.prog 22 #[.int .u8 b] w fun e w' => e = .returned (.string (sec b)) ∧ Below w.heap.size w w' := by
  have hmk : ∀ w : World, (Instr.makeSlice 22 (.int .i64 32) (.int .i64 32)).run Try.prog w = .ok (.slice (some ⟨w.heap.size, 0, none⟩) 32 32) (w.alloc (.cells (madeCells #[.int .u8 0] 32) 5)) := fun _ => by kernel_rfl
  go_enter Try.func22, Try.ntmps22
  go_wp2
  go_loopw [4] (fun i wr => ∃ k : Nat, k ≤ 32 ∧ i = .int .i64 k ∧ wr.ownsRow w.heap.size 5 1 (.slice (some ⟨w.heap.size, 0, none⟩) 32 32) 32 (ofRow b k) ∧ Below w.heap.size w wr) (fun i _ => 32 - (intOf i).toNat)
  case atStart =>
    refine ⟨0, by omega, rfl, ?_, (Below.refl _ _).alloc (Nat.le_refl _) _⟩
    have h := World.ownsRow_lit (base := w.heap.size) (size := 1) w (e := 5) (madeCells #[.int .u8 0] 32) 32 (Nat.le_refl _) (by decide) (by rw [size_madeCells])
    rw [ofRow_zero]
    exact h
  case round =>
    obtain ⟨k, hk, rfl, hown, hbel⟩ := hrel
    by_cases hlt : k < 32
    · have m0 : wr.cell? ⟨w.heap.size, k, none⟩ = some ((ofRow b k).getD k undef) := by
        rw [hown.cellAt k (by omega)]; simp [List.getD, ofRow_len b k hk, hlt]
      have m1 : wr.frozen? ⟨w.heap.size, k, none⟩ = false := hown.frozenAt _
      have HO := Lib.hid hown
      have HB := Lib.hid hbel
      clear hown hbel
      go_wp2
      go_roundw
      case rel => exact ⟨k + 1, by omega, by go_num, by rw [← ofRow_set b k hlt]; exact (HO.out.stored k _).1, HB.out.setCell (Nat.le_refl _) _⟩
      case measure => simp [intOf]; omega
    · obtain rfl : k = 32 := by omega
      have HO := Lib.hid hown
      have HB := Lib.hid hbel
      have hc := run_convert_bytes_arg (P := Try.prog) wr 22 5 (by kernel_rfl) (by kernel_rfl) w.heap.size 0 32 32 (List.replicate 32 b) (by simp) (fun i hi => by
        rw [Nat.zero_add, HO.out.cellAt i (by omega)]; exact ofRow_full b i hi) 9 (by kernel_rfl)
      clear hown hbel
      go_wp2
      go_ret
      exact ⟨rfl, HB.out⟩

theorem zread_out (b : Nat) (f s i : Int) (zb : Nat) (w : World) (hz : w.heap[zb]? = some (znRow b f s)) (hi : s ≤ i) :
    Calls Try.prog 34 #[.pointer (some ⟨zb, 0, none⟩), .int .i64 i] w fun e w' => e = .returned (.tuple #[.string ⟨#[]⟩, .int .i64 3]) ∧ w = w' := by
  have hin := isIn_any b f s i zb w hz
  rw [decide_eq_false (by omega)] at hin
  clear hz hi
  go_enter Try.func34, Try.ntmps34
  go_wp2_with (go_at_call 38; refine hin.mono ?_; rintro e w1 ⟨rfl, rfl⟩)
  go_ret2
  exact ⟨rfl, rfl⟩

set_option maxRecDepth 100000 in
set_option maxHeartbeats 4000000 in
theorem awake5 (w : World) : Calls Try.prog 14 #[] w fun e w' => e = .returned (.bool true) ∧ Below w.heap.size w w' := by
  go_enter Try.func14, Try.ntmps14
  go_wp2_with fail
  refine (new_own (w := w) 4 (by decide) (by decide) (Below.refl w.heap.size w) (Nat.le_refl _)).mono ?_
  rintro e w1 ⟨b, rfl, h1⟩
  have h1 := h1.toZ
  go_wp2_with fail
  refine (znew_ok h1 2 2 (by decide) (by decide) (by decide) (by decide)).mono ?_
  rintro e w2 ⟨rfl, h2⟩
  obtain ⟨zb, hzb⟩ : ∃ zb, w1.heap.size = zb := ⟨_, rfl⟩
  rw [hzb] at h2 ⊢
  clear h1 hzb
  go_wp2_with fail
  refine (of5 97 (by decide) (by decide) w2).mono ?_
  rintro e w3 ⟨rfl, hb⟩
  have h3 := h2.below hb; clear h2 hb
  go_wp2_with fail
  refine (zwrite_ok h3 zb 2 2 (by simp) rfl rfl (by decide) (by decide) 1 (by decide) (by decide) (by decide) (sec 97) (sec_size _)).mono ?_
  rintro e w4 ⟨rfl, h4⟩
  clear h3
  go_wp2_with fail
  obtain ⟨S4, k4, _⟩ := h4.dk
  refine (read_dk k4 rfl 3 (by decide)).mono ?_
  rintro e w5 ⟨rfl, hb⟩
  have h5 := h4.below hb
  clear h4 k4 hb
  obtain ⟨D, hD⟩ : ∃ D, DS.written ⟨false, -1, [], List.replicate 4 (sec 0), [], 0⟩ (2 + 1 : Nat) (sec 97) = D := ⟨_, rfl⟩
  have hr : D.read (3 : Nat) = sec 97 := by rw [← hD]; rfl
  rw [hD] at h5 ⊢
  rw [hr]
  have hz := (h5.zn (zb, 2, 2) (by simp)).1
  have c0 : w5.cell? ⟨zb, 0, none⟩ = some (.pointer (some ⟨b, 0, none⟩)) := by simp [World.cell?, hz, znRow]
  go_wp2_with fail
  refine (zread_out b 2 2 2 zb w5 hz (by decide)).mono ?_
  rintro e w6 ⟨rfl, rfl⟩
  go_wp2_with fail
  refine (of5 97 (by decide) (by decide) w5).mono ?_
  rintro e w6 ⟨rfl, hb⟩
  have h6 := h5.below hb
  have hz6 := (h6.zn (zb, 2, 2) (by simp)).1
  have c0' : w6.cell? ⟨zb, 0, none⟩ = some (.pointer (some ⟨b, 0, none⟩)) := by simp [World.cell?, hz6, znRow]
  clear h5 hb hz c0
  go_wp2_with fail
  refine (zlen_any b 2 2 zb w6 hz6).mono ?_
  rintro e w7 ⟨rfl, rfl⟩
  go_wp2_with fail
  refine (isOn_own h6.toD).mono ?_
  rintro e w7 ⟨rfl, rfl⟩
  have ha : (!D.away) = true := by rw [← hD]; rfl
  rw [ha]
  go_wp2_with fail
  have hsy : Calls Try.prog 9 #[.pointer (some ⟨b, 0, none⟩)] w6 fun e w' => e = .returned (.int .i64 0) ∧ OwnZ w.heap.size w b [(zb, 2, 2)] D.synced w' := by
    obtain ⟨S6, k6, k7, k8⟩ := h6.dk
    refine (sync_dk k6 (by rw [← hD]; rfl) (by rw [← hD]; decide) (by rw [← hD]; decide)).mono ?_
    rintro e w' ⟨rfl, hs⟩
    obtain ⟨S', q1, q2, q3⟩ := hs
    have hzl := Nat.le_trans h6.hB h6.bel.size
    refine ⟨rfl, ⟨S', q1, fun x hx => ?_, fun z hz hm => ?_⟩, fun z hz => ⟨by rw [q3.block z.1 (lt_of_block (h6.zn z hz).1) (k8 z hz)]; exact (h6.zn z hz).1, (h6.zn z hz).2⟩, h6.bel.trans (q3.below k7 hzl), h6.hB⟩
    · rcases q2 x hx with h | h
      · exact k7 x h
      · omega
    · rcases q2 _ hm with h | h
      · exact k8 z hz h
      · have := lt_of_block (h6.zn z hz).1; omega
  refine hsy.mono ?_
  rintro e w7 ⟨rfl, h7⟩
  have hz7 := (h7.zn (zb, 2, 2) (by simp)).1
  have c0'' : w7.cell? ⟨zb, 0, none⟩ = some (.pointer (some ⟨b, 0, none⟩)) := by simp [World.cell?, hz7, znRow]
  clear h6 hz6 c0' hsy
  have himg : ∀ w', OwnZ w.heap.size w b [(zb, 2, 2)] D.synced w' → Calls Try.prog 28 #[.pointer (some ⟨b, 0, none⟩)] w' fun e w'' => e = .returned (.string ⟨(Lib.join (D.synced.safe.map (·.data.toList)) []).toArray⟩) ∧ OwnZ w.heap.size w b [(zb, 2, 2)] D.synced w'' := by
    intro w' h
    obtain ⟨S, k, _⟩ := h.dk
    exact (image_dk k (by rw [← hD]; decide) (by rw [← hD]; decide)).mono fun e w'' ⟨e1, e2⟩ => ⟨e1, h.below e2⟩
  obtain ⟨I, hI⟩ : ∃ I : ByteArray, (⟨(Lib.join (D.synced.safe.map (·.data.toList)) []).toArray⟩ : ByteArray) = I := ⟨_, rfl⟩
  rw [hI] at himg
  have HI := Lib.hid himg
  clear hI himg hD hr ha
  go_wp2_with fail
  refine (HI.out w7 h7).mono ?_
  rintro e w8 ⟨rfl, h8⟩
  go_wp2_with fail
  refine (HI.out w8 h8).mono ?_
  rintro e w9 ⟨rfl, h9⟩
  go_wp2
  go_ret
  exact ⟨rfl, h9.bel⟩
end Go.Proofs.Ytlfeedjgimnahaa
