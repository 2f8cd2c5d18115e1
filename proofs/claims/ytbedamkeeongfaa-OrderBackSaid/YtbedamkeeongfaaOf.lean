/- Rows of ints as values; contracts of slices.Clone over them and of Copy. -/
import Derived.Test.YtbedamkeeongfaaOe
import Derived.Test.YtbedamkeeongfaaShelf
namespace Go.Proofs.Ytbedamkeeongfaa
open Go.RowKit Go.Proofs.Ytbedamkeeongfaa.Mem
set_option linter.unusedVariables false

/-- a row of ints, in a block from A on and below B -/
def Sl (w : World) (A B : Nat) (v : Value) (xs : List Int) : Prop :=
  (xs.length : Int) ≤ 1000000 ∧ ∃ ao c, v = .slice ao xs.length c ∧ xs.length ≤ c ∧ (0 < xs.length → ∃ g o, ao = some ⟨g, o, none⟩ ∧ A ≤ g ∧ g < B ∧ ∀ j, j < xs.length → w.cell? ⟨g, o + j, none⟩ = some (.int .i64 (xs.getD j 0)))
theorem Sl.move {w w' : World} {A B A' B' : Nat} {v : Value} {xs : List Int} (h : Sl w A B v xs) (hA : A' ≤ A) (hB : B ≤ B') (hb : ∀ k, A ≤ k → k < B → w'.heap[k]? = w.heap[k]?) : Sl w' A' B' v xs := by
  obtain ⟨h1, ao, c, h2, h3, h4⟩ := h
  refine ⟨h1, ao, c, h2, h3, fun hx => ?_⟩
  obtain ⟨g, o, h5, h6, h7, h8⟩ := h4 hx
  refine ⟨g, o, h5, by omega, by omega, fun j hj => ?_⟩
  rw [World.cell?_of_block (w := w) (hb g h6 h7)]
  exact h8 j hj
theorem Sl.below {w w' : World} {A B A' B' : Nat} {v : Value} {xs : List Int} (h : Sl w A B v xs) (hb : Below B w w') (hA : A' ≤ A) (hB : B ≤ B') : Sl w' A' B' v xs := h.move hA hB (fun k _ hk => hb.block k hk)
theorem Sl.slice {w : World} {A B : Nat} {v : Value} {xs : List Int} (h : Sl w A B v xs) : ∃ ao c, v = .slice ao xs.length c := by
  obtain ⟨h1, ao, c, h2, h3, h4⟩ := h
  exact ⟨ao, c, h2⟩
theorem Sl.nil (w : World) (A B c : Nat) (ao : Option Addr) : Sl w A B (.slice ao 0 c) [] := ⟨by simp, ao, c, rfl, by simp, fun h => by simp at h⟩
theorem Sl.own {w : World} {B : Nat} {v : Value} {xs : List Int} (hl : (xs.length : Int) ≤ 1000000) (h : w.ownsRow B 3 1 v xs.length (xs.map (.int .i64))) : Sl w B w.heap.size v xs := by
  have hlow := h.lt
  obtain ⟨ao, c, rfl, h1, h2⟩ := own_slice h
  refine ⟨hl, ao, c, rfl, h1, fun hx => ?_⟩
  obtain ⟨g, rfl, hg⟩ := h2 hx
  have hc : ∀ j, j < xs.length → w.cell? ⟨g, 0 + j, none⟩ = some (.int .i64 (xs.getD j 0)) := by
    intro j hj
    have := h.cells (g := g) rfl j (.int .i64 xs[j]) (by simp [hj])
    rw [Addr.add_lit] at this
    rw [this]; simp [List.getD_eq_getElem?_getD, hj]
  exact ⟨g, 0, rfl, (hlow g hg).1, World.block_lt_of_cell? _ _ (hc 0 hx), hc⟩

theorem clone_calls (xs : List Int) (v : Value) (A B : Nat) (w : World) (h : Sl w A B v xs) :
    Calls Try.prog 30 #[v] w fun e w' => ∃ v', e = .returned v' ∧ Sl w' w.heap.size w'.heap.size v' xs ∧ Below w.heap.size w w' := by
  obtain ⟨h1, ao, c, rfl, h3, h4⟩ := h
  by_cases hx : 0 < xs.length
  · obtain ⟨g, o, rfl, _, h6, h7⟩ := h4 hx
    refine (Try.slices_Clone_int g o xs.length c xs w (Nat.le_refl _) (by omega) h7).mono ?_
    rintro e w' ⟨v', rfl, h8, _, h9⟩
    rw [List.take_length] at h8
    exact ⟨v', rfl, Sl.own h1 h8, h9⟩
  · obtain rfl : xs = [] := List.eq_nil_of_length_eq_zero (by omega)
    cases ao with
    | none =>
      refine (Try.slices_Clone_int_nil 0 c w).mono ?_
      rintro e w' ⟨rfl, rfl⟩
      exact ⟨_, rfl, Sl.nil _ _ _ _ _, Below.refl _ _⟩
    | some a =>
      refine (Try.slices_Clone_int_zero a c w).mono ?_
      rintro e w' ⟨v', rfl, h8, _, h9⟩
      exact ⟨v', rfl, Sl.own (by simp) h8, h9⟩

set_option maxRecDepth 100000 in
set_option maxHeartbeats 1000000 in
theorem copy_calls (c : Cmd) (p d : Value) (A B : Nat) (w : World) (hp : Sl w A B p c.pr) (hd : Sl w A B d c.dr) (hB : B ≤ w.heap.size) :
    Calls Try.prog 10 #[.agg (c.vals p d)] w fun e w' => ∃ p' d', e = .returned (.agg (c.vals p' d')) ∧ Sl w' w.heap.size w'.heap.size p' c.pr ∧ Sl w' w.heap.size w'.heap.size d' c.dr ∧ Below w.heap.size w w' := by
  obtain ⟨pa, pc, rfl⟩ := hp.slice
  obtain ⟨da, dc, rfl⟩ := hd.slice
  have HP := Lib.hid hp
  have HD := Lib.hid hd
  clear hp hd
  go_enter Try.func10, Try.ntmps10
  go_wp2_with fail
  generalize hW : (w.alloc (.cells (c.vals (.slice pa c.pr.length pc) (.slice da c.dr.length dc)) 24)).alloc (.cells #[.int .i64 0, .int .i64 0, .int .i64 0, .bool false, .slice none 0 0, .slice none 0 0, .string ⟨#[]⟩] 24) = W
  have hbW : Below w.heap.size w W := by rw [← hW]; exact ((Below.refl _ w).alloc (Nat.le_refl _) _).alloc (by simp) _
  have hb : W.heap[w.heap.size]? = some (.cells (c.vals (.slice pa c.pr.length pc) (.slice da c.dr.length dc)) 24 (0, 0)) := by rw [← hW]; exact heap_two _ _ _
  have hz : W.heap[w.heap.size + 1]? = some (.cells (Cmd.zero.vals (.slice none 0 0) (.slice none 0 0)) 24 (0, 0)) := by rw [← hW]; exact heap_alloc_new2 _ _ _
  clear hW
  have hWs := lt_of_block hz
  obtain ⟨_, _, _, _, c4, c5, _, cf⟩ := cmd_cells (w := W.drew) hb
  have HB := Lib.hid hb
  have HZ := Lib.hid hz
  have HW := Lib.hid hbW
  have SP := Lib.hid (Sl.below (A' := 0) (B' := w.heap.size) HP.out (hbW.mono hB).drew (Nat.zero_le _) hB)
  have SD := Lib.hid (Sl.below (A' := 0) (B' := w.heap.size) HD.out (hbW.mono hB).drew (Nat.zero_le _) hB)
  have wl : w.heap.size ≤ W.drew.heap.size := hbW.size
  clear hb hz hbW cf
  have wl2 : w.heap.size < W.drew.heap.size := by simp; omega
  have wl3 : w.heap.size + 1 < W.drew.heap.size := by simp; omega
  go_region_with (first | ((with_reducible refine (clone_calls _ _ _ _ _ SP.out).mono ?_); rintro e w1 ⟨p', rfl, h1, h2⟩; obtain ⟨p1, p2, rfl⟩ := h1.slice; have H1 := Lib.hid h1; have hb1 := (h2.block w.heap.size wl2).trans HB.out; have HZ1 := Lib.hid ((h2.block (w.heap.size + 1) wl3).trans HZ.out); obtain ⟨_, _, _, _, e4, e5, _, _⟩ := cmd_cells hb1; have SD1 := Lib.hid (Sl.below SD.out (h2.mono wl) (Nat.le_refl _) wl); have hs1 := h2.size; have HB1 := Lib.hid hb1; have H2 := Lib.hid h2; clear h1 h2 hb1) | ((with_reducible refine (clone_calls _ _ _ _ _ SD1.out).mono ?_); rintro e w2 ⟨d', rfl, h3, h4⟩; obtain ⟨d1, d2, rfl⟩ := h3.slice; have hs2 := h4.size; have H3 := Lib.hid h3; have hb2 := (h4.block w.heap.size (by simp at hs1; omega)).trans HB1.out; have HZ2 := Lib.hid ((h4.block (w.heap.size + 1) (by simp at hs1; omega)).trans HZ1.out); obtain ⟨_, _, _, _, g4, g5, _, gf⟩ := cmd_cells hb2; have gf4 := gf 4; have gf5 := gf 5; have H1' := Lib.hid (Sl.below H1.out h4 (Nat.le_refl _) (Nat.le_refl _)); have HB2 := Lib.hid hb2; have H4 := Lib.hid h4; clear h3 h4 hb2 gf))
  all_goals
    have hset2 := heap_set (heap_set HB2.out 4 (.slice p1 c.pr.length p2)) 5 (.slice d1 c.dr.length d2)
    have hz3 := (Below.heap_setCell (w2.setCell ⟨w.heap.size, 4, none⟩ (.slice p1 c.pr.length p2)) ⟨w.heap.size, 5, none⟩ (.slice d1 c.dr.length d2) (w.heap.size + 1) (by simp)).trans ((Below.heap_setCell w2 ⟨w.heap.size, 4, none⟩ (.slice p1 c.pr.length p2) (w.heap.size + 1) (by simp)).trans HZ2.out)
    simp at hs1
    have hW2 : Below w.heap.size W w2 := ((Below.refl w.heap.size W).drew.trans (H2.out.mono wl)).trans (H4.out.mono (by omega))
    have hW3 := (hW2.setCell (p := ⟨w.heap.size, 4, none⟩) (Nat.le_refl _) (.slice p1 c.pr.length p2)).setCell (p := ⟨w.heap.size, 5, none⟩) (Nat.le_refl _) (.slice d1 c.dr.length d2)
    have hkeep : ∀ k, k ≠ w.heap.size → ((w2.setCell ⟨w.heap.size, 4, none⟩ (.slice p1 c.pr.length p2)).setCell ⟨w.heap.size, 5, none⟩ (.slice d1 c.dr.length d2)).heap[k]? = w2.heap[k]? := fun k hk => (Below.heap_setCell _ _ _ _ hk).trans (Below.heap_setCell _ _ _ _ hk)
    have hs4 : ((w2.setCell ⟨w.heap.size, 4, none⟩ (.slice p1 c.pr.length p2)).setCell ⟨w.heap.size, 5, none⟩ (.slice d1 c.dr.length d2)).heap.size = w2.heap.size := by simp [World.setCell]
    clear gf4 gf5 g4 g5 e4 e5 c4 c5
    have HF := Lib.hid hW3
    have HKp := Lib.hid hkeep
    have HS2 := Lib.hid hset2
    have HZ3 := Lib.hid hz3
    have HS4 := Lib.hid hs4
    clear hW2 hW3 hkeep hset2 hz3 hs4
    generalize (w2.setCell ⟨w.heap.size, 4, none⟩ (.slice p1 c.pr.length p2)).setCell ⟨w.heap.size, 5, none⟩ (.slice d1 c.dr.length d2) = W3 at *
    obtain ⟨c0, c1, c2, c3, c4, c5, c6, cf⟩ := cmd_cells (r := c) HS2.out
    obtain ⟨y0, y1, y2, y3, y4, y5, y6, yf⟩ := cmd_cells HZ3.out
    have f0 := yf 0
    have f1 := yf 1
    have f2 := yf 2
    have f3 := yf 3
    have f4 := yf 4
    have f5 := yf 5
    have f6 := yf 6
    have hset := heap_set (heap_set (heap_set (heap_set (heap_set (heap_set (heap_set HZ3.out 0 (.int .i64 c.kind)) 1 (.int .i64 c.id)) 2 (.int .i64 c.n)) 3 (.bool c.good)) 4 (.slice p1 c.pr.length p2)) 5 (.slice d1 c.dr.length d2)) 6 (.string c.data)
    have HS := Lib.hid hset
    clear hset cf yf
    go_wp2
    refine bodyPost_ret (results_cell_row rfl _ _ (w.heap.size + 1) 24 (c.vals (.slice p1 c.pr.length p2) (.slice d1 c.dr.length d2)) (0, 0) _ rfl HS.out Try.underlying24 rfl (by kernel_rfl)) rfl ?_
    have hk7 : ∀ k, k ≠ w.heap.size + 1 → (((((((W3.setCell ⟨w.heap.size + 1, 0, none⟩ (.int .i64 c.kind)).setCell ⟨w.heap.size + 1, 1, none⟩ (.int .i64 c.id)).setCell ⟨w.heap.size + 1, 2, none⟩ (.int .i64 c.n)).setCell ⟨w.heap.size + 1, 3, none⟩ (.bool c.good)).setCell ⟨w.heap.size + 1, 4, none⟩ (.slice p1 c.pr.length p2)).setCell ⟨w.heap.size + 1, 5, none⟩ (.slice d1 c.dr.length d2)).setCell ⟨w.heap.size + 1, 6, none⟩ (.string c.data)).heap[k]? = W3.heap[k]? := fun k hk => by
      rw [Below.heap_setCell _ _ _ _ hk, Below.heap_setCell _ _ _ _ hk, Below.heap_setCell _ _ _ _ hk, Below.heap_setCell _ _ _ _ hk, Below.heap_setCell _ _ _ _ hk, Below.heap_setCell _ _ _ _ hk, Below.heap_setCell _ _ _ _ hk]
    have hmv : ∀ k, w.heap.size + 2 ≤ k → (((((((W3.setCell ⟨w.heap.size + 1, 0, none⟩ (.int .i64 c.kind)).setCell ⟨w.heap.size + 1, 1, none⟩ (.int .i64 c.id)).setCell ⟨w.heap.size + 1, 2, none⟩ (.int .i64 c.n)).setCell ⟨w.heap.size + 1, 3, none⟩ (.bool c.good)).setCell ⟨w.heap.size + 1, 4, none⟩ (.slice p1 c.pr.length p2)).setCell ⟨w.heap.size + 1, 5, none⟩ (.slice d1 c.dr.length d2)).setCell ⟨w.heap.size + 1, 6, none⟩ (.string c.data)).heap[k]? = w2.heap[k]? := fun k hk => (hk7 k (by omega)).trans (HKp.out k (by omega))
    have hsz7 : (((((((W3.setCell ⟨w.heap.size + 1, 0, none⟩ (.int .i64 c.kind)).setCell ⟨w.heap.size + 1, 1, none⟩ (.int .i64 c.id)).setCell ⟨w.heap.size + 1, 2, none⟩ (.int .i64 c.n)).setCell ⟨w.heap.size + 1, 3, none⟩ (.bool c.good)).setCell ⟨w.heap.size + 1, 4, none⟩ (.slice p1 c.pr.length p2)).setCell ⟨w.heap.size + 1, 5, none⟩ (.slice d1 c.dr.length d2)).setCell ⟨w.heap.size + 1, 6, none⟩ (.string c.data)).heap.size = w2.heap.size := by rw [← HS4.out]; simp [World.setCell]
    refine ⟨_, _, rfl, H1'.out.move (by omega) (by rw [hsz7]; omega) (fun k h1 _ => hmv k (by simp at h1; omega)), H3.out.move (by omega) (by rw [hsz7]; omega) (fun k h1 _ => hmv k (by omega)), ?_⟩
    have hn : w.heap.size ≤ w.heap.size + 1 := Nat.le_succ _
    exact (((((((HW.out.trans HF.out).setCell (p := ⟨w.heap.size + 1, 0, none⟩) hn _).setCell (p := ⟨w.heap.size + 1, 1, none⟩) hn _).setCell (p := ⟨w.heap.size + 1, 2, none⟩) hn _).setCell (p := ⟨w.heap.size + 1, 3, none⟩) hn _).setCell (p := ⟨w.heap.size + 1, 4, none⟩) hn _).setCell (p := ⟨w.heap.size + 1, 5, none⟩) hn _).setCell (p := ⟨w.heap.size + 1, 6, none⟩) hn _
end Go.Proofs.Ytbedamkeeongfaa
