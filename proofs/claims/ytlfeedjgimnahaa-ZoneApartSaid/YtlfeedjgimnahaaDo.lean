/- The law's function awake answers true. -/
import Derived.Test.YtlfeedjgimnahaaDn
namespace Go.Proofs.Ytlfeedjgimnahaa
open Go.RowKit Go.Proofs.Ytlfeedjgimnahaa.Mem
set_option linter.unusedVariables false

/-- a disk's S may be taken below the heap's size -/
theorem DkAt.small {w : World} {b : Nat} {D : DS} {S : List Nat} (h : DkAt w b D S) : ∃ S', DkAt w b D S' ∧ (∀ x ∈ S', x ∈ S) ∧ ∀ x ∈ S', x < w.heap.size := by
  obtain ⟨kv, sg, sc, lv, h, h1, h2, h3, h4⟩ := h
  refine ⟨S.filter (· < w.heap.size), ⟨kv, sg, sc, lv, h, ?_, ?_, ?_, ?_⟩, ?_, ?_⟩
  · simp [h1]; exact lt_of_block h.blk
  · simp [h2]; exact (h.safe.lt sg rfl).2
  · intro k hk; simp [h3 k hk]; exact (h.loose.lt k hk).2
  · intro k hk; simp [h4 k hk]; exact (h.keep.lt k hk).2
  · intro x hx; simp at hx; exact hx.1
  · intro x hx; simp at hx; exact hx.2

theorem cut_new {B b : Nat} {w0 w : World} {D : DS} (h : OwnD B w0 b D w) (ha : D.away = false) (ks : List Bool) (hk0 : 0 < ks.length) (hkl : ks.length ≤ 1000000) (t : Nat) :
    Calls Try.prog 26 #[.pointer (some ⟨b, 0, none⟩), .slice (some ⟨w.heap.size, 0, none⟩) ks.length ks.length] (w.alloc (.cells (ks.map Value.bool).toArray t)) fun e w' => e = .returned (.tuple #[]) ∧ OwnD B w0 b (D.cutBy ks) w' := by
  have h1 := h.below ((Below.refl w.heap.size w).alloc (Nat.le_refl _) (.cells (ks.map Value.bool).toArray t))
  obtain ⟨S, hS, hB⟩ := h.dk
  obtain ⟨S', hS', hsub, hlt⟩ := hS.small
  have hS2 := hS'.out (Out.of_below ((Below.refl w.heap.size w).alloc (Nat.le_refl _) (.cells (ks.map Value.bool).toArray t)) []) (by simp)
  refine (cut_dk hS2 ha _ w.heap.size 0 ks.length ks ?_ (fun _ hm => by have := hlt _ hm; omega) (fun _ => rfl) hkl).mono fun e w' ⟨e1, e2⟩ => ⟨e1, h1.step (fun x hx => hB x (hsub x hx)) e2⟩
  intro j hj
  rw [World.cell?_alloc_at _ _ _ _ rfl]
  simp [List.getD, hj]

theorem fuse_new {B b : Nat} {w0 w : World} {D : DS} (h : OwnD B w0 b D w) (ha : D.away = false) (n : Int) (hn : n ≤ 9223372036854775807) (ks : List Bool) (hkl : ks.length ≤ 1000000) (t : Nat) :
    Calls Try.prog 8 #[.pointer (some ⟨b, 0, none⟩), .int .i64 n, .slice (some ⟨w.heap.size, 0, none⟩) ks.length ks.length] (w.alloc (.cells (ks.map Value.bool).toArray t)) fun e w' => e = .returned (.tuple #[]) ∧ OwnD B w0 b (D.fused n ks) w' := by
  have h1 := h.below ((Below.refl w.heap.size w).alloc (Nat.le_refl _) (.cells (ks.map Value.bool).toArray t))
  obtain ⟨S, hS, hB⟩ := h1.dk
  refine (fuse_dk hS ha n hn w.heap.size 0 ks.length ks ?_ hkl).mono fun e w' ⟨e1, e2⟩ => ⟨e1, h1.step hB e2⟩
  intro j hj
  rw [World.cell?_alloc_at _ _ _ _ (by simp)]
  simp [List.getD, hj]

/-- the disk of 'awake' behind its deeds -/
def awD : DS := ⟨false, -1, [], [sec 0, sec 98, sec 0], [], 2⟩
theorem awImg : (⟨(Lib.join (awD.safe.map (·.data.toList)) []).toArray⟩ : ByteArray) = (sec 0 ++ sec 98) ++ sec 0 := by kernel_rfl

set_option maxRecDepth 100000 in
set_option maxHeartbeats 2000000 in
theorem awake4 (w : World) : Calls Try.prog 6 #[] w fun e w' => e = .returned (.bool true) ∧ Below w.heap.size w w' := by
  go_enter Try.func6, Try.ntmps6
  go_wp2_with fail
  refine (new_own (w := w) 3 (by decide) (by decide) (Below.refl w.heap.size w) (Nat.le_refl _)).mono ?_
  rintro e w1 ⟨b, rfl, h1⟩
  go_wp2_with fail
  refine (of4 97 (by decide) (by decide) w1).mono ?_
  rintro e w2 ⟨rfl, hb⟩
  have h2 := h1.below hb; clear h1 hb
  go_wp2_with fail
  refine (write_own h2 rfl (by decide) (by decide) (by decide) 0 (sec 97) (sec_size _) (by decide) (by decide)).mono ?_
  rintro e w3 ⟨rfl, h3⟩
  clear h2
  go_wp2_with fail
  refine (of4 98 (by decide) (by decide) w3).mono ?_
  rintro e w4 ⟨rfl, hb⟩
  have h4 := h3.below hb; clear h3 hb
  go_wp2_with fail
  refine (write_own h4 rfl (by decide) (by decide) (by decide) 1 (sec 98) (sec_size _) (by decide) (by decide)).mono ?_
  rintro e w5 ⟨rfl, h5⟩
  clear h4
  go_wp2_with fail
  refine (loose_own h5).mono ?_
  rintro e w5 ⟨rfl, rfl⟩
  go_wp2_with fail
  refine (cut_new h5 rfl [false, true] (by decide) (by decide) _).mono ?_
  rintro e w6 ⟨rfl, h6⟩
  clear h5
  go_wp2_with fail
  refine (isOn_own h6).mono ?_
  rintro e w6 ⟨rfl, rfl⟩
  go_wp2_with fail
  refine (come_own h6 rfl).mono ?_
  rintro e w7 ⟨rfl, h7⟩
  clear h6
  have h7 : OwnD w.heap.size w b awD w7 := h7
  go_wp2_with fail
  refine (read_own h7 rfl 1 (by decide)).mono ?_
  rintro e w8 ⟨rfl, h8⟩
  clear h7
  have hr : awD.read (1 : Nat) = sec 98 := rfl
  rw [hr]
  go_wp2_with fail
  refine (of4 98 (by decide) (by decide) w8).mono ?_
  rintro e w9 ⟨rfl, hb⟩
  have h9 := h8.below hb; clear h8 hb
  go_wp2_with fail
  have hi := image_own h9 (by decide) (by decide)
  rw [awImg] at hi
  refine hi.mono ?_
  rintro e w10 ⟨rfl, h10⟩
  clear h9 hi
  go_wp2_with fail
  refine (of4 0 (by decide) (by decide) w10).mono ?_
  rintro e w11 ⟨rfl, hb⟩
  have h11 := h10.below hb; clear h10 hb
  go_wp2_with fail
  refine (of4 98 (by decide) (by decide) w11).mono ?_
  rintro e w12 ⟨rfl, hb⟩
  have h12 := h11.below hb; clear h11 hb
  go_wp2_with fail
  refine (of4 0 (by decide) (by decide) w12).mono ?_
  rintro e w13 ⟨rfl, hb⟩
  have h13 := h12.below hb; clear h12 hb
  go_wp2_with fail
  refine (len_own h13).mono ?_
  rintro e w13 ⟨rfl, rfl⟩
  go_wp2_with fail
  refine (done_own h13).mono ?_
  rintro e w13 ⟨rfl, rfl⟩
  go_wp2
  go_ret
  exact ⟨rfl, h13.bel⟩
end Go.Proofs.Ytlfeedjgimnahaa
