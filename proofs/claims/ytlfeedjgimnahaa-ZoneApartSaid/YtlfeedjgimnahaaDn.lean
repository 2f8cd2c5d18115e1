/- Contracts over a disk of the call's own. -/
import Derived.Test.YtlfeedjgimnahaaDm
namespace Go.Proofs.Ytlfeedjgimnahaa
open Go.RowKit Go.Proofs.Ytlfeedjgimnahaa.Mem
set_option linter.unusedVariables false

theorem sync_away {w : World} {b : Nat} {D : DS} {S : List Nat} (h : DkAt w b D S) (ha : D.away = true) :
    Calls Try.prog 9 #[.pointer (some ⟨b, 0, none⟩)] w fun e w' => e = .returned (.int .i64 4) ∧ w = w' := by
  have c0 := h.reads.c0
  rw [ha] at c0
  clear h
  go_enter Try.func9, Try.ntmps9
  go_wp2
  go_ret
  exact ⟨rfl, rfl⟩

theorem sync_cut {w : World} {b : Nat} {D : DS} {S : List Nat} (h : DkAt w b D S) (ha : D.away = false) (hf : D.fuse = 0) :
    Calls Try.prog 9 #[.pointer (some ⟨b, 0, none⟩)] w fun e w' => e = .returned (.int .i64 4) ∧ DkStep w b S D.cut w' := by
  have hu := use_cut h ha hf
  have c0 := h.reads.c0
  rw [ha] at c0
  clear h hf
  go_enter Try.func9, Try.ntmps9
  go_wp2_with (go_at_call 31; refine hu.mono ?_; rintro e w1 ⟨rfl, hs⟩)
  go_ret
  exact ⟨rfl, hs⟩

theorem image_dk {w : World} {b : Nat} {D : DS} {S : List Nat} (h : DkAt w b D S) (hn : D.safe.length ≤ 1000000) (hlen : (Lib.join (D.safe.map (·.data.toList)) []).length ≤ 140737488355328) :
    Calls Try.prog 28 #[.pointer (some ⟨b, 0, none⟩)] w fun e w' => e = .returned (.string ⟨(Lib.join (D.safe.map (·.data.toList)) []).toArray⟩) ∧ Below w.heap.size w w' := by
  obtain ⟨kv, sg, sc, lv, h, hin⟩ := h
  obtain ⟨c0, c1, c2, c3, c4, c5, f⟩ := dk_cells h.blk
  obtain ⟨_, _, hv, hcap, _⟩ := own_slice h.safe
  simp only [Value.slice.injEq, true_and] at hv
  have hj := Try.strings_Join sg 0 sc D.safe ⟨#[]⟩ w (fun j x hx => by
    have hjl : j < D.safe.length := (List.getElem?_eq_some_iff.1 hx).1
    rw [Nat.zero_add, h.safe.cellAt j (by omega), List.getElem?_map, hx]; rfl) (h.safe.lt sg rfl).2 (by omega) (by omega) hlen
  clear h hin hv c0 c1 c2 c4 c5 f
  go_enter Try.func28, Try.ntmps28
  go_wp2_with (go_at_call 40; refine hj.mono ?_; rintro e w1 ⟨rfl, hb⟩)
  go_ret
  exact ⟨rfl, hb⟩

/-- A disk of the call's own: it lies from block B on; below B the world is as it was when the call began. -/
structure OwnD (B : Nat) (w0 : World) (b : Nat) (D : DS) (w : World) : Prop where
  dk : ∃ S, DkAt w b D S ∧ ∀ x ∈ S, B ≤ x
  bel : Below B w0 w
  hB : B ≤ w0.heap.size

theorem OwnD.below {B w0 b D w w'} (h : OwnD B w0 b D w) (hb : Below w.heap.size w w') : OwnD B w0 b D w' := by
  obtain ⟨⟨S, h1, h2⟩, h3, h4⟩ := h
  exact ⟨⟨S, h1.out (Out.of_below hb []) (by simp), h2⟩, h3.trans (hb.mono (Nat.le_trans h4 h3.size)), h4⟩
theorem OwnD.step {B w0 b D D' w w'} (h : OwnD B w0 b D w) {S : List Nat} (hS : ∀ x ∈ S, B ≤ x) (hs : DkStep w b S D' w') : OwnD B w0 b D' w' := by
  obtain ⟨S', h1, h2, h3⟩ := hs
  have hz := Nat.le_trans h.hB h.bel.size
  refine ⟨⟨S', h1, fun x hx => ?_⟩, h.bel.trans (h3.below hS hz), h.hB⟩
  rcases h2 x hx with h | h
  · exact hS x h
  · omega

variable {B b : Nat} {w0 w : World} {D : DS}
theorem new_own (n : Nat) (h1 : 1 ≤ n) (h2 : n ≤ 100) (hb : Below B w0 w) (hB : B ≤ w0.heap.size) :
    Calls Try.prog 7 #[.int .i64 n] w fun e w' => ∃ b, e = .returned (.pointer (some ⟨b, 0, none⟩)) ∧ OwnD B w0 b ⟨false, -1, [], List.replicate n (sec 0), [], 0⟩ w' :=
  (new_dk n h1 h2 w).mono fun e w' ⟨b, S, h1, h2, h3, h4, h5⟩ => ⟨b, h1, ⟨⟨S, h3, fun x hx => Nat.le_trans (Nat.le_trans hB hb.size) (h4 x hx)⟩, hb.trans (h5.mono (Nat.le_trans hB hb.size)), hB⟩⟩
theorem write_own (h : OwnD B w0 b D w) (ha : D.away = false) (hf : D.fuse ≠ 0) (hd : D.done < 1000000) (hl : D.loose.length < 1000000) (at_ : Int) (s : ByteArray) (hs : s.size = 32) (h0 : 0 ≤ at_) (hn : at_ < D.safe.length) :
    Calls Try.prog 10 #[.pointer (some ⟨b, 0, none⟩), .int .i64 at_, .string s] w fun e w' => e = .returned (.int .i64 0) ∧ OwnD B w0 b (D.written at_ s) w' := by
  obtain ⟨S, h1, h2⟩ := h.dk
  exact (write_dk h1 ha hf hd hl at_ s hs h0 hn).mono fun e w' ⟨e1, e2⟩ => ⟨e1, h.step h2 e2⟩
theorem loose_own (h : OwnD B w0 b D w) : Calls Try.prog 25 #[.pointer (some ⟨b, 0, none⟩)] w fun e w' => e = .returned (.int .i64 D.loose.length) ∧ w = w' := by obtain ⟨S, h1, h2⟩ := h.dk; exact loose_dk h1
theorem len_own (h : OwnD B w0 b D w) : Calls Try.prog 17 #[.pointer (some ⟨b, 0, none⟩)] w fun e w' => e = .returned (.int .i64 D.safe.length) ∧ w = w' := by obtain ⟨S, h1, h2⟩ := h.dk; exact len_dk h1
theorem done_own (h : OwnD B w0 b D w) : Calls Try.prog 13 #[.pointer (some ⟨b, 0, none⟩)] w fun e w' => e = .returned (.int .i64 D.done) ∧ w = w' := by obtain ⟨S, h1, h2⟩ := h.dk; exact done_dk h1
theorem isOn_own (h : OwnD B w0 b D w) : Calls Try.prog 12 #[.pointer (some ⟨b, 0, none⟩)] w fun e w' => e = .returned (.bool (!D.away)) ∧ w = w' := by obtain ⟨S, h1, h2⟩ := h.dk; exact isOn_dk h1
theorem come_own (h : OwnD B w0 b D w) (ha : D.away = true) : Calls Try.prog 27 #[.pointer (some ⟨b, 0, none⟩)] w fun e w' => e = .returned (.tuple #[]) ∧ OwnD B w0 b { D with away := false, fuse := -1 } w' := by
  obtain ⟨S, h1, h2⟩ := h.dk
  exact (come_dk h1 ha).mono fun e w' ⟨e1, e2⟩ => ⟨e1, h.step h2 e2⟩
theorem read_own (h : OwnD B w0 b D w) (ha : D.away = false) (i : Nat) (hi : i < D.safe.length) :
    Calls Try.prog 23 #[.pointer (some ⟨b, 0, none⟩), .int .i64 i] w fun e w' => e = .returned (.tuple #[.string (D.read i), .int .i64 0]) ∧ OwnD B w0 b D w' := by
  obtain ⟨S, h1, h2⟩ := h.dk
  exact (read_dk h1 ha i hi).mono fun e w' ⟨e1, e2⟩ => ⟨e1, h.below e2⟩
theorem image_own (h : OwnD B w0 b D w) (hn : D.safe.length ≤ 1000000) (hlen : (Lib.join (D.safe.map (·.data.toList)) []).length ≤ 140737488355328) :
    Calls Try.prog 28 #[.pointer (some ⟨b, 0, none⟩)] w fun e w' => e = .returned (.string ⟨(Lib.join (D.safe.map (·.data.toList)) []).toArray⟩) ∧ OwnD B w0 b D w' := by
  obtain ⟨S, h1, h2⟩ := h.dk
  exact (image_dk h1 hn hlen).mono fun e w' ⟨e1, e2⟩ => ⟨e1, h.below e2⟩
end Go.Proofs.Ytlfeedjgimnahaa
