/- Words for the walk of OrderExact: rows of any length, what is kept, the callees at any world that keeps what came in. -/
import Derived.Test.YtbedamkeeongfaaPa
import Derived.Test.YtbedamkeeongfaaPb
import Derived.Test.YtbedamkeeongfaaPd
import Derived.Test.YtbedamkeeongfaaOu
namespace Go.Proofs.Ytbedamkeeongfaa
open Go.RowKit Go.Proofs.Ytbedamkeeongfaa.Mem Go.Proofs.Ytbedamkeeongfaa.POrderExact Go.Proofs.YtbedamkeeongfaaW.PrintWords Go.Proofs.YtbedamkeeongfaaW.PrintLast Go.Proofs.YtbedamkeeongfaaW.PrintMore
set_option linter.unusedVariables false

/-- a row of ints that came in, of any length -/
def SlW (w : World) (v : Value) (xs : List Int) : Prop :=
  xs.length ≤ maxLen ∧ ∃ ao c, v = .slice ao xs.length c ∧ xs.length ≤ c ∧ (0 < xs.length → ∃ g o, ao = some ⟨g, o, none⟩ ∧ g < w.heap.size ∧ ∀ j, j < xs.length → w.cell? ⟨g, o + j, none⟩ = some (.int .i64 (xs.getD j 0)))
theorem SlW.sl {w : World} {v : Value} {xs : List Int} (h : SlW w v xs) (hl : (xs.length : Int) ≤ 1000000) : Sl w 0 w.heap.size v xs := by
  obtain ⟨h1, ao, c, h2, h3, h4⟩ := h
  refine ⟨hl, ao, c, h2, h3, fun hx => ?_⟩
  obtain ⟨g, o, h5, h6, h7⟩ := h4 hx
  exact ⟨g, o, h5, Nat.zero_le _, h6, h7⟩
theorem SlW.below {w w' : World} {v : Value} {xs : List Int} (h : SlW w v xs) (hb : Below w.heap.size w w') : SlW w' v xs := by
  obtain ⟨h1, ao, c, h2, h3, h4⟩ := h
  refine ⟨h1, ao, c, h2, h3, fun hx => ?_⟩
  obtain ⟨g, o, h5, h6, h7⟩ := h4 hx
  refine ⟨g, o, h5, Nat.lt_of_lt_of_le h6 hb.size, fun j hj => ?_⟩
  rw [World.cell?_of_block (w := w) (hb.block g h6)]
  exact h7 j hj
theorem SlW.slice {w : World} {v : Value} {xs : List Int} (h : SlW w v xs) : ∃ ao c, v = .slice ao xs.length c := by
  obtain ⟨h1, ao, c, h2, h3, h4⟩ := h
  exact ⟨ao, c, h2⟩
theorem SlW.reads {w : World} {v : Value} {xs : List Int} (h : SlW w v xs) : ∃ ao c, v = .slice ao xs.length c ∧ xs.length ≤ c ∧ Kd.C (Kd.int .i64) w ao xs.length xs := by
  obtain ⟨h1, ao, c, h2, h3, h4⟩ := h
  refine ⟨ao, c, h2, h3, rfl, by unfold maxLen at h1; omega, fun hx => ?_⟩
  obtain ⟨g, o, rfl, _, h5⟩ := h4 hx
  refine ⟨_, rfl, fun j p hj => ⟨[.int .i64 p], rfl, rfl, fun i u hu => ?_⟩⟩
  have hjl := (List.getElem?_eq_some_iff.1 hj).1
  match i, hu with
  | 0, hu =>
    simp at hu
    subst hu
    rw [Addr.add_lit]
    have := h5 j hjl
    rw [List.getD_eq_getElem?_getD, hj] at this
    show w.cell? ⟨g, o + (j * 1 + 0), none⟩ = _
    simpa using this
theorem great_any (c : Cmd) (p d : Value) (w : World) (hp : SlW w p c.pr) (hd : SlW w d c.dr) :
    Calls Try.prog 6 #[.agg (c.vals p d)] w fun e w' => e = .returned (.bool (greatB c)) ∧ Below w.heap.size w w' := by
  obtain ⟨a1, c1, rfl, h1, r1⟩ := hp.reads
  obtain ⟨a2, c2, rfl, h2, r2⟩ := hd.reads
  refine coadjutorlaw29_great.calls c.kind c.id c.n c.good a1 c1 c.pr a2 c2 c.dr c.data _ w r1 h1 r2 h2 ?_
  unfold coadjutorlaw29_great.f greatB
  by_cases g1 : (c.pr.length : Int) > 40
  · rw [if_pos g1]; simp [g1]
  · by_cases g2 : (c.dr.length : Int) > 40
    · rw [if_neg g1, if_pos g2]; simp [g1, g2]
    · rw [if_neg g1, if_neg g2]; simp [g1, g2]

/-- blocks that are as told -/
def Keep (l : List (Nat × Obj)) (w : World) : Prop := ∀ b o, (b, o) ∈ l → w.heap[b]? = some o
theorem Keep.below {l : List (Nat × Obj)} {w w' : World} (h : Keep l w) (hb : Below w.heap.size w w') : Keep l w' := fun b o hm => by
  have h1 := h b o hm
  rw [hb.block b (Array.getElem?_eq_some_iff.1 h1).1]
  exact h1
theorem Keep.drew {l : List (Nat × Obj)} {w : World} (h : Keep l w) : Keep l w.drew := h
theorem Keep.new {l : List (Nat × Obj)} {w : World} (h : Keep l w) (o : Obj) : Keep ((w.heap.size, o) :: l) (w.alloc o) := fun b o' hm => by
  rcases List.mem_cons.1 hm with h1 | h1
  · cases h1; exact heap_alloc_new w o
  · exact (h.below ((Below.refl _ w).alloc (Nat.le_refl _) o)) b o' h1
theorem Keep.nil (w : World) : Keep [] w := fun b o hm => by cases hm

/-- what came in, and the world in which the law began -/
structure In (w : World) (c : Cmd) (p d : Value) : Prop where
  p : Sl w 0 w.heap.size p c.pr
  d : Sl w 0 w.heap.size d c.dr
variable {w : World} {c : Cmd} {p d : Value}
theorem In.pb (h : In w c p d) {W : World} (hb : Below w.heap.size w W) : Sl W 0 w.heap.size p c.pr := h.p.below hb (Nat.le_refl _) (Nat.le_refl _)
theorem In.db (h : In w c p d) {W : World} (hb : Below w.heap.size w W) : Sl W 0 w.heap.size d c.dr := h.d.below hb (Nat.le_refl _) (Nat.le_refl _)

set_option maxRecDepth 100000 in
theorem form_calls (c : Cmd) (pa da : Option Addr) (pn pc dn dc : Nat) (w : World) :
    Calls Try.prog 7 #[.agg (c.vals (.slice pa pn pc) (.slice da dn dc))] w fun e w' => e = .returned (.agg #[.int .i64 c.kind, .int .i64 c.id, .int .i64 c.n, .bool c.good, .slice pa pn pc, .slice da dn dc, .string c.data]) ∧ Below w.heap.size w w' := by
  go_enter Try.func7, Try.ntmps7
  go_upto_region 1 with fail
  (try simp only [Act.put, List.setIfInBounds_toArray, List.set_cons_zero, List.set_cons_succ])
  generalize hW : (w.alloc (.cells (c.vals (.slice pa pn pc) (.slice da dn dc)) 24)).alloc (.cells #[.int .i64 0, .int .i64 0, .int .i64 0, .bool false, .slice none 0 0, .slice none 0 0, .string ⟨#[]⟩] 27) = W
  have hb : Below w.heap.size w W := by rw [← hW]; exact ((Below.refl _ w).alloc (Nat.le_refl _) _).alloc (by simp) _
  have h0 : W.heap[w.heap.size]? = some (.cells (c.vals (.slice pa pn pc) (.slice da dn dc)) 24 (0, 0)) := by rw [← hW]; exact heap_two _ _ _
  have h1 : W.heap[w.heap.size + 1]? = some (.cells (Cmd.zero.vals (.slice none 0 0) (.slice none 0 0)) 27 (0, 0)) := by rw [← hW]; exact heap_alloc_new2 _ _ _
  clear hW
  obtain ⟨k0, k1, k2, k3, k4, k5, k6, _⟩ := cmd_cells h0
  obtain ⟨y0, y1, y2, y3, y4, y5, y6, yf⟩ := cmd_cells h1
  have f0 := yf 0
  have f1 := yf 1
  have f2 := yf 2
  have f3 := yf 3
  have f4 := yf 4
  have f5 := yf 5
  have f6 := yf 6
  have H1 := Lib.hid h1
  have HB := Lib.hid hb
  clear yf h0 h1 hb
  go_wp2
  refine bodyPost_ret (results_cell_row rfl _ _ (w.heap.size + 1) 27 (c.vals (.slice pa pn pc) (.slice da dn dc)) (0, 0) _ rfl (put7_heap H1.out c (.slice pa pn pc) (.slice da dn dc)) Try.underlying27 rfl (by kernel_rfl)) rfl ?_
  exact ⟨rfl, put7_below HB.out _ (Nat.le_succ _) c _ _⟩
end Go.Proofs.Ytbedamkeeongfaa
