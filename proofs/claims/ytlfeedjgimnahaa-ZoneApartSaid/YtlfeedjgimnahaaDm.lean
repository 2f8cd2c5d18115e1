/- Contract of Disk.Read: the last write at a place, or what is safe there; for a place within, the power there. -/
import Derived.Test.YtlfeedjgimnahaaDl
namespace Go.Proofs.Ytlfeedjgimnahaa
open Go.RowKit Go.Proofs.Ytlfeedjgimnahaa.Mem Go.Shelf
set_option linter.unusedVariables false
attribute [local go_sem] Oper.semAt_some

theorem backward (a : Option Addr) (len cap : Nat) (w : World) :
    Calls Try.prog 39 #[.slice a len cap] w fun e w' => e = .returned (.func (.func 46) #[] #[.pointer (some ⟨w.heap.size, 0, none⟩)]) ∧ w' = w.alloc (.cells #[.slice a len cap] 55) := by
  go_enter Try.func39, Try.ntmps39
  go_wp2
  go_ret
  exact ⟨rfl, rfl⟩

theorem back_stops (F : Fence) (n : Nat) (hfn : F.fn 46) (hro : F.round = none) (hn : 1 ≤ n) (Bs n₀ : Nat) (ao : Option Addr) (lc : Nat) (L : List Wr) (hL : L.length ≤ 1000000) (w : World) (hBn : Bs < n₀) (hn₀ : n₀ ≤ w.heap.size)
    (hc : w.cell? ⟨Bs, 0, none⟩ = some (.slice ao L.length lc)) (hlc : L.length ≤ lc) (hI : WrCells n₀ w ao L) :
    SeqStopsK F n Try.prog 46 #[.pointer (some ⟨Bs, 0, none⟩)] wrEnc (Below n₀) (fun ys => ys = upto (bk L) L.length) (fun pre => ∃ k, k ≤ L.length ∧ pre = upto (bk L) k) L.length w := fun l J Jx W hW _ _ hY h0 => by
  have hc' := (hW.cell (p := ⟨Bs, 0, none⟩) (by show Bs < _; omega)).trans hc
  exact back1_in F n hfn hro hn l Bs n₀ ao lc L hL hBn J Jx hY W hc' hlc (hI.below (hW.mono hn₀)) h0

/-- the last of the writes at a place -/
def lookBack (L : List Wr) (i : Int) : Option ByteArray := (L.reverse.find? (fun x => x.1 == i)).map (·.2)
def DS.read (D : DS) (i : Int) : ByteArray := (lookBack D.loose i).getD (D.safe.getD i.toNat .empty)

theorem upto_bk (L : List Wr) : ∀ k, k ≤ L.length → (upto (bk L) k).map (·.2) = L.reverse.take k
  | 0, _ => by simp [upto]
  | k + 1, h => by
    have ih := upto_bk L k (by omega)
    rw [upto_succ, List.map_append, ih, List.take_add_one]
    simp [bk, List.getD, show k < L.length by omega, show L.length - 1 - k < L.length by omega]

/-- a round's end: at an entry of that place -/
theorem lookBack_stop (L : List Wr) (i : Int) (k : Nat) (pre : List (Nat × Wr)) (x : Nat × Wr) (hk : k ≤ L.length) (he : pre ++ [x] = upto (bk L) k) (hp : ∀ y ∈ pre, y.2.1 ≠ i) (hx : x.2.1 = i) : lookBack L i = some x.2.2 := by
  have h := upto_bk L k hk
  rw [← he] at h
  have h2 : L.reverse = (pre.map (·.2) ++ [x.2]) ++ L.reverse.drop k := by
    have h3 := List.take_append_drop k L.reverse
    rw [← h] at h3
    simpa using h3.symm
  unfold lookBack
  rw [h2, List.append_assoc, List.find?_append]
  have h3 : (pre.map (·.2)).find? (fun x => x.1 == i) = none := by
    rw [List.find?_eq_none]
    intro y hy
    obtain ⟨z, hz, rfl⟩ := List.mem_map.1 hy
    simpa using hp z hz
  simp [h3, hx]

theorem lookBack_done (L : List Wr) (i : Int) (h : ∀ y ∈ upto (bk L) L.length, y.2.1 ≠ i) : lookBack L i = none := by
  have h1 := upto_bk L L.length (Nat.le_refl _)
  rw [List.take_of_length_le (by simp)] at h1
  unfold lookBack
  rw [Option.map_eq_none_iff, List.find?_eq_none]
  intro y hy
  rw [← h1] at hy
  obtain ⟨z, hz, rfl⟩ := List.mem_map.1 hy
  simpa using h z hz

theorem held_own {β : Type} (B : Nat) (c : β → Array Value) (t : TypeId) : Own (fun s W => W.heap[B]? = some (.cells (c s) t (0, 0))) := fun s X Y row hs hg hrow =>
  (hg.block B (lt_of_block hs) (fun e' => by obtain ⟨o, ho, hc⟩ := hrow B e'.symm; rw [hs] at ho; cases ho; cases hc)).trans hs

/-- what stands between two rounds of Read's loop -/
structure RdIn (w W0 : World) (i : Int) (pre : List (Nat × Wr)) (W : World) : Prop where
  ne : ∀ y ∈ pre, y.2.1 ≠ i
  b0 : Boxed W w.heap.size 3 (.int .i64 i)
  b1 : Boxed W (w.heap.size + 1) 9 (.string ⟨#[]⟩)
  b2 : Boxed W (w.heap.size + 2) 28 (.int .i64 0)
  bel : Below W0.heap.size W0 W

structure RdOut (w W0 : World) (i : Int) (c : Code) (pre : List (Nat × Wr)) (W : World) : Prop where
  c : c = .ret
  at_ : ∃ p x, pre = p ++ [x] ∧ (∀ y ∈ p, y.2.1 ≠ i) ∧ x.2.1 = i ∧ Boxed W (w.heap.size + 1) 9 (.string x.2.2)
  b2 : Boxed W (w.heap.size + 2) 28 (.int .i64 0)
  bel : Below w.heap.size W0 W

theorem rdIn_own (w W0 : World) (i : Int) : OwnFrom W0.heap.size (RdIn w W0 i) := fun s W W' row h hg hr =>
  ⟨h.ne, boxed_own _ _ (fun _ => _) () W W' row h.b0 hg (fun r e => (hr r e).2), boxed_own _ _ (fun _ => _) () W W' row h.b1 hg (fun r e => (hr r e).2), boxed_own _ _ (fun _ => _) () W W' row h.b2 hg (fun r e => (hr r e).2),
    ownFrom_below (B := W0.heap.size) (n₀ := W0.heap.size) (β := Unit) (w₀ := W0) (Nat.le_refl _) (Nat.le_refl _) () W W' row h.bel hg hr⟩

theorem rdOut_own (w W0 : World) (i : Int) (hw : w.heap.size ≤ W0.heap.size) (c : Code) : OwnFrom W0.heap.size (RdOut w W0 i c) := fun s W W' row h hg hr => by
  obtain ⟨h1, ⟨p, x, h2, h3, h4, h5⟩, h6, h7⟩ := h
  exact ⟨h1, ⟨p, x, h2, h3, h4, boxed_own _ _ (fun _ => _) () W W' row h5 hg (fun r e => (hr r e).2)⟩, boxed_own _ _ (fun _ => _) () W W' row h6 hg (fun r e => (hr r e).2),
    ownFrom_below (B := W0.heap.size) (n₀ := w.heap.size) (β := Unit) (w₀ := W0) hw hw () W W' row h7 hg hr⟩

set_option maxRecDepth 100000 in
set_option maxHeartbeats 2000000 in
theorem read_dk {w : World} {b : Nat} {D : DS} {S : List Nat} (h : DkAt w b D S) (ha : D.away = false) (i : Nat) (hi : i < D.safe.length) :
    Calls Try.prog 23 #[.pointer (some ⟨b, 0, none⟩), .int .i64 i] w fun e w' => e = .returned (.tuple #[.string (D.read i), .int .i64 0]) ∧ Below w.heap.size w w' := by
  refine (callsIn_wide (n := 6)).1 ?_
  obtain ⟨kv, sg, sc, lv, h, hin⟩ := h
  obtain ⟨ao, lc, rfl, hlc, hao⟩ := own_slice h.loose
  have hblt := lt_of_block h.blk
  have hchk : ∀ w1 : World, w1.heap[b]? = w.heap[b]? → Calls Try.prog 32 #[.pointer (some ⟨b, 0, none⟩), .int .i64 i] w1 fun e w' => e = .returned (.int .i64 0) ∧ w1 = w' := by
    intro w1 h1
    have hc := check_ok b i D.away D.fuse D.done kv (.slice ao D.loose.length lc) (some ⟨sg, 0, none⟩) D.safe.length sc w1 (h1.trans h.blk)
    rw [if_neg (by omega), ha] at hc
    exact hc
  have hwr : WrCells w.heap.size w ao D.loose := by
    intro k hk
    obtain ⟨g, rfl, hg⟩ := hao (by omega)
    have hx := flatW_get D.loose k D.loose[k] (by simp [hk])
    refine ⟨g, rfl, (h.loose.lt g hg).2, ?_, ?_⟩
    · rw [Nat.mul_comm, h.loose.cellAt _ (by omega), hx.1]; simp [List.getD, hk]
    · rw [Nat.mul_comm, h.loose.cellAt _ (by omega), hx.2]; simp [List.getD, hk]
  have hsf : w.cell? ⟨sg, i, none⟩ = some (.string (D.safe.getD i .empty)) := by
    rw [h.safe.cellAt _ (by omega)]; simp [List.getD, hi]
  obtain ⟨c0, c1, c2, c3, c4, c5, f⟩ := dk_cells h.blk
  have hln := h.ok.ln
  have hb2 : b < w.heap.size + 1 := by omega
  have hb3 : b < w.heap.size + 1 + 1 := by omega
  have hb4 : b < w.heap.size + 1 + 1 + 1 := by omega
  have B3 : ∀ o1 o2 o3, Below w.heap.size w (((w.alloc o1).alloc o2).alloc o3) := fun o1 o2 o3 => (((Below.refl _ w).alloc (Nat.le_refl _) _).alloc (by simp) _).alloc (by simp; omega) _
  have B3' := Lib.hid B3
  have HW := Lib.hid hwr
  have HB := Lib.hid h
  have HF := Lib.hid hsf
  clear hin hao B3 hwr h hsf
  refine callsIn_of_wp_marks Try.func23 rfl trivial ?_ rfl
  simp only [Try.ntmps23, List.size_toArray, List.length_cons, List.length_nil, Nat.reduceAdd, Nat.reduceSub, Array.replicate_succ, Array.replicate_zero, List.push_toArray, List.append_toArray, List.nil_append, List.cons_append]
  gi_wp2_with (first | (refine ⟨trivial, ?_⟩; gi_at_call 32; refine (callsIn_wide.2 (hchk _ ((B3'.out _ _ _).block b hblt))).mono ?_; rintro e w' ⟨rfl, rfl⟩) | (refine ⟨trivial, ?_⟩; gi_at_call 39; refine (callsIn_wide.2 (backward _ _ _ _)).mono ?_; rintro e w' ⟨rfl, rfl⟩))
  have b0 := (((Boxed.new w 3 (.int .i64 i)).alloc (.cells #[.string ⟨#[]⟩] 9)).alloc (.cells #[.int .i64 0] 28)).alloc (.cells #[.slice ao D.loose.length lc] 55)
  have b1 := ((Boxed.new (w.alloc (.cells #[.int .i64 i] 3)) 9 (.string ⟨#[]⟩)).alloc (.cells #[.int .i64 0] 28)).alloc (.cells #[.slice ao D.loose.length lc] 55)
  have b2 := (Boxed.new ((w.alloc (.cells #[.int .i64 i] 3)).alloc (.cells #[.string ⟨#[]⟩] 9)) 28 (.int .i64 0)).alloc (.cells #[.slice ao D.loose.length lc] 55)
  have b3 := Boxed.new (((w.alloc (.cells #[.int .i64 i] 3)).alloc (.cells #[.string ⟨#[]⟩] 9)).alloc (.cells #[.int .i64 0] 28)) 55 (.slice ao D.loose.length lc)
  have hbel := (B3'.out (.cells #[.int .i64 i] 3) (.cells #[.string ⟨#[]⟩] 9) (.cells #[.int .i64 0] 28)).alloc (by simp; omega) (.cells #[.slice ao D.loose.length lc] 55)
  have hsz : ((((w.alloc (.cells #[.int .i64 i] 3)).alloc (.cells #[.string ⟨#[]⟩] 9)).alloc (.cells #[.int .i64 0] 28)).alloc (.cells #[.slice ao D.loose.length lc] 55)).heap.size = w.heap.size + 4 := by simp
  simp only [World.size_alloc] at b1 b2 b3
  obtain ⟨W0, hW0⟩ : ∃ W0, (((w.alloc (.cells #[.int .i64 i] 3)).alloc (.cells #[.string ⟨#[]⟩] 9)).alloc (.cells #[.int .i64 0] 28)).alloc (.cells #[.slice ao D.loose.length lc] 55) = W0 := ⟨_, rfl⟩
  rw [hW0] at b0 b1 b2 b3 hbel hsz ⊢
  clear hW0 hchk
  have hwr0 : WrCells W0.heap.size W0 ao D.loose := fun k hk => by
    obtain ⟨g, h1, h2, h3, h4⟩ := HW.out.below hbel k hk
    exact ⟨g, h1, by omega, h3, h4⟩
  refine wpIn_rangeFunc_ownH rfl (by omega) (gf := 46) (lb := #[.pointer (some ⟨w.heap.size + 1 + 1 + 1, 0, none⟩)]) rfl trivial (enters_of Try.func46 (by kernel_rfl) rfl)
    (back_stops Fence.wide 5 trivial rfl (by omega) (w.heap.size + 1 + 1 + 1) W0.heap.size ao lc D.loose hln W0 (by omega) (Nat.le_refl _) b3.cell hlc hwr0) belowK_t (belowK_b (Nat.le_refl _)) (Below.refl _ _) (fun _ => rfl)
    (RdIn w W0 i) (RdOut w W0 i) (rdIn_own w W0 i) (rdOut_own w W0 i (by omega)) ⟨by simp, b0, b1, b2, Below.refl _ _⟩
    (fun x a' W => ∃ Bx, W0.heap.size ≤ Bx ∧ W.heap[Bx]? = some (.cells #[.int .i64 x.2.1, .string x.2.2] 59) ∧ a' = { tmps := #[Value.pointer (some { block := b, off := 0 }), Value.int IntKind.i64 ↑i, undef,
        Value.pointer (some { block := w.heap.size, off := 0 }),
        Value.pointer (some { block := w.heap.size + 1, off := 0 }),
        Value.pointer (some { block := w.heap.size + 1 + 1, off := 0 }), Value.int IntKind.i64 0, undef, Value.pointer (some { block := Bx, off := 0 }),
        Value.pointer (some { block := b, off := 0 }), Value.int IntKind.i64 ↑i, Value.int IntKind.i64 0,
        Value.int IntKind.i64 0, Value.bool false, undef, Value.pointer (some { block := b, off := 0 }),
        Value.pointer (some { block := b, off := 0 }), Value.pointer (some { block := b, off := 4 }),
        Value.slice ao D.loose.length lc,
        Value.func (Fn.func 46) #[] #[Value.pointer (some { block := w.heap.size + 1 + 1 + 1, off := 0 })], .int .i64 x.1,
        .agg #[.int .i64 x.2.1, .string x.2.2], undef, undef, undef, undef, undef, undef, undef, undef, undef, undef, undef, undef, undef], defers := [] })
    (fun x a' _ X Y row hs hg hr => by obtain ⟨Bx, h1, h2, h3⟩ := hs; exact ⟨Bx, h1, held_own Bx (fun (_ : Unit) => #[Value.int .i64 x.2.1, .string x.2.2]) 59 () X Y row h2 hg (fun r e => (hr r e).2), h3⟩)
    ?assign ?body ?done ?stop
  case assign =>
    rintro l pre x W K hR hK
    dsimp only [wrEnc]
    gi_wp2
    exact hK _ _ ((KeepsOthers.alloc _ _).from _) ((Below.refl _ W).alloc hR.bel.size _) ⟨hR.ne, hR.b0.alloc _, hR.b1.alloc _, hR.b2.alloc _, hR.bel.alloc hR.bel.size _⟩ ⟨W.heap.size, hR.bel.size, heap_alloc_new W _, rfl⟩
  case body =>
    rintro l pre x a' W hl ⟨r, hr⟩ h ⟨Bx, hBx, bX, rfl⟩ hlt
    have cA := h.b0.cell
    have c1' := h.b1.cell
    have f1' := h.b1.frozen
    have c2' := h.b2.cell
    have f2' := h.b2.frozen
    have x0 : W.cell? ⟨Bx, 0, none⟩ = some (.int .i64 x.2.1) := by simp [World.cell?, bX]
    have x1 : W.cell? ⟨Bx, 1, none⟩ = some (.string x.2.2) := by simp [World.cell?, bX]
    have H := Lib.hid h
    clear h bX
    by_cases hx : x.2.1 = i
    · have hx' : (x.2.1 == (i : Int)) = true := by simp [hx]
      have HX := Lib.hid hx
      clear hx
      gi_wp2
      have h := H.out
      exact ⟨((KeepsOthers.setCell _ _ _).trans (KeepsOthers.setCell _ _ _)).from _, rfl, ⟨pre, x, rfl, h.ne, HX.out, (h.b1.set _).other (by omega) _⟩, (h.b2.other (by omega) _).set _,
        ((h.bel.mono (by omega)).setCell (p := ⟨w.heap.size + 1, 0, none⟩) (by simp) _).setCell (p := ⟨w.heap.size + 1 + 1, 0, none⟩) (by simp; omega) _⟩
    · have hx' : (x.2.1 == (i : Int)) = false := by simp [hx]
      have HX := Lib.hid hx
      clear hx
      gi_wp2
      have h := H.out
      exact ⟨KeepsFrom.refl _ _, Below.refl _ _, ⟨fun y hy => (List.mem_append.1 hy).elim (h.ne y) (fun e => by simp at e; subst e; exact HX.out), h.b0, h.b1, h.b2, h.bel⟩⟩
  case done =>
    rintro Dd ys W hD rfl hR hK
    have hbw : Below w.heap.size w W := hbel.trans (hR.bel.mono (by omega))
    have k3 : W.cell? ⟨b, 3, none⟩ = some (.slice (some ⟨sg, 0, none⟩) D.safe.length sc) := (hbw.cell (p := ⟨b, 3, none⟩) hblt).trans c3
    obtain ⟨sv, hsv⟩ : ∃ sv, D.safe.getD i .empty = sv := ⟨_, rfl⟩
    have ks : W.cell? ⟨sg, i, none⟩ = some (.string sv) := (hbw.cell (p := ⟨sg, i, none⟩) (World.block_lt_of_cell? w _ HF.out)).trans (hsv ▸ HF.out)
    have HSV := Lib.hid hsv
    clear hsv
    have cA := hR.b0.cell
    have c1' := hR.b1.cell
    have f1' := hR.b1.frozen
    have c2' := hR.b2.cell
    have f2' := hR.b2.frozen
    have hbW : b < W.heap.size := by have := hbw.size; omega
    have H := Lib.hid hR
    have HBW := Lib.hid hbw
    have HK := Lib.hid hK
    clear c0 c1 c2 c3 c4 c5 f hR hbw hK
    gi_wp2
    gi_region
    all_goals
      gi_wp2
      have h := H.out
      have hK := HK.out
      have hbw := HBW.out
      obtain ⟨W9, hW9⟩ : ∃ W9, (((W.setCell ⟨w.heap.size + 1, 0, none⟩ (.string sv)).setCell ⟨w.heap.size + 1 + 1, 0, none⟩ (.int .i64 0))).drew = W9 := ⟨_, rfl⟩
      have hK' : W9.heap[Dd]? = some (.deferred (some [])) := by
        rw [← hW9]
        exact ((KeepsOthers.setCell W ⟨w.heap.size + 1, 0, none⟩ (.string sv)).trans (KeepsOthers.setCell _ ⟨w.heap.size + 1 + 1, 0, none⟩ (.int .i64 0))).same Dd _ hK rfl
      have q1 : Boxed W9 (w.heap.size + 1) 9 (.string sv) := by rw [← hW9]; exact (h.b1.set _).other (by omega) _
      have q2 : Boxed W9 (w.heap.size + 1 + 1) 28 (.int .i64 0) := by rw [← hW9]; exact (h.b2.other (by omega) _).set _
      have qb : Below w.heap.size w W9 := by rw [← hW9]; exact ((hbw.setCell (p := ⟨w.heap.size + 1, 0, none⟩) (by simp) _).setCell (p := ⟨w.heap.size + 1 + 1, 0, none⟩) (by simp; omega) _).drew
      rw [hW9]
      clear hW9
      refine ⟨by simp, .inl ⟨_, _, rfl, run_takeDeferred hK', ?_⟩⟩
      have e1 := cell_kept q1.cell (grownBy_putObj' _ Dd (.deferred none)) (fun r e => by cases e; exact ⟨_, hK', rfl⟩)
      have e2 := cell_kept q2.cell (grownBy_putObj' _ Dd (.deferred none)) (fun r e => by cases e; exact ⟨_, hK', rfl⟩)
      refine ⟨.tuple #[.string sv, .int .i64 0], ?_, ?_, qb.trans (belowK_b (w := w) (Nat.le_refl _) W9 Dd _ _ (by omega) hK' rfl rfl)⟩
      · simp [results, Try.f23, go_sem, e1, e2]
      · have : D.read i = sv := by rw [← HSV.out, DS.read, lookBack_done _ _ h.ne]; simp
        rw [this]
  case stop =>
    rintro Dd c pre W hD ⟨k, hk, hpre⟩ hR hK
    obtain ⟨rfl, ⟨p, x, hpx, hne, hx, q1⟩, q2, hb⟩ := hR
    have hread : D.read i = x.2.2 := by rw [DS.read, lookBack_stop D.loose i k p x hk (hpx ▸ hpre) hne hx]; rfl
    gi_wp2
    refine ⟨by simp, .inl ⟨_, _, rfl, run_takeDeferred hK, ?_⟩⟩
    have e1 := cell_kept q1.cell (grownBy_putObj' _ Dd (.deferred none)) (fun r e => by cases e; exact ⟨_, hK, rfl⟩)
    have e2 := cell_kept q2.cell (grownBy_putObj' _ Dd (.deferred none)) (fun r e => by cases e; exact ⟨_, hK, rfl⟩)
    refine ⟨.tuple #[.string x.2.2, .int .i64 0], ?_, by rw [hread], (hbel.trans hb).trans (belowK_b (w := w) (Nat.le_refl _) W Dd _ _ (by omega) hK rfl rfl)⟩
    simp [results, Try.f23, go_sem, e1, e2]
end Go.Proofs.Ytlfeedjgimnahaa
