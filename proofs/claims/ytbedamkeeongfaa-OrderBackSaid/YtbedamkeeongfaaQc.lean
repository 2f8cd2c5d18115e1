/- Contract of order.Split at the bytes of commands that can be. -/
import Derived.Test.YtbedamkeeongfaaQa
import Derived.Test.YtbedamkeeongfaaQb
import Derived.Test.YtbedamkeeongfaaPd
import Derived.Deep.AppendLies
namespace Go.Proofs.Ytbedamkeeongfaa
open Go.RowKit Go.Proofs.Ytbedamkeeongfaa.Mem
set_option linter.unusedVariables false

theorem elemCmd : ElemT Try.prog 44 24 7 96 (.agg #[.int .i64 0, .int .i64 0, .int .i64 0, .bool false, .slice none 0 0, .slice none 0 0, .string ⟨#[]⟩]) := ⟨by kernel_rfl, by kernel_rfl, rfl, by decide⟩

/-- a command with its rows' values -/
structure CV where
  c : Cmd
  p : Value
  d : Value
def CV.cells (x : CV) : List Value := (x.c.vals x.p x.d).toList
theorem CV.len (x : CV) : x.cells.length = 7 := rfl
theorem cells_at : ∀ (vs : List CV) (i : Nat) (x : CV) (j : Nat), vs[i]? = some x → j < 7 → (vs.flatMap CV.cells)[i * 7 + j]? = x.cells[j]?
  | [], i, x, j, h, _ => by simp at h
  | v :: vs, 0, x, j, h, hj => by
    simp at h
    subst h
    rw [List.flatMap_cons, List.getElem?_append_left (by rw [CV.len]; omega)]
    simp
  | v :: vs, i + 1, x, j, h, hj => by
    rw [List.flatMap_cons, List.getElem?_append_right (by rw [CV.len]; omega), CV.len]
    have := cells_at vs i x j (by simpa using h) hj
    rw [← this]
    congr 1
    omega

/-- commands read so far: the row v of them, each with its rows in memory apart from it -/
structure GotAt (B : Nat) (v : Value) (vs : List CV) (w : World) : Prop where
  own : w.ownsRow B 24 7 v vs.length (vs.flatMap CV.cells)
  rows : ∀ x ∈ vs, ∃ a b, B ≤ a ∧ b ≤ w.heap.size ∧ Sl w a b x.p x.c.pr ∧ Sl w a b x.d x.c.dr ∧ ∀ g, v.ownBlock = some g → g < a ∨ b ≤ g

theorem GotAt.nil (B : Nat) (w : World) : GotAt B (.slice none 0 0) [] w := ⟨World.ownsRow_nil _ _ _ _, fun x hx => by simp at hx⟩
theorem GotAt.out {B : Nat} {v : Value} {vs : List CV} {w w' : World} {S : List Nat} (h : GotAt B v vs w) (ho : Out S w w') (hS : ∀ k ∈ S, k < B ∨ w.heap.size ≤ k) : GotAt B v vs w' := by
  refine ⟨own_out h.own ho (fun k hk hm => ?_), fun x hx => ?_⟩
  · have := h.own.lt k hk
    rcases hS k hm with h1 | h1 <;> omega
  · obtain ⟨a, b, h1, h2, h3, h4, h5⟩ := h.rows x hx
    have hb : ∀ k, a ≤ k → k < b → w'.heap[k]? = w.heap[k]? := fun k k1 k2 => ho.block k (by omega) (fun hm => by rcases hS k hm with h | h <;> omega)
    exact ⟨a, b, h1, Nat.le_trans h2 ho.size, h3.move (Nat.le_refl _) (Nat.le_refl _) hb, h4.move (Nat.le_refl _) (Nat.le_refl _) hb, h5⟩
theorem GotAt.below {B : Nat} {v : Value} {vs : List CV} {w w' : World} (h : GotAt B v vs w) (hb : Below w.heap.size w w') : GotAt B v vs w' :=
  h.out (Out.of_below hb []) (fun k hk => by simp at hk)
theorem GotAt.snoc {B : Nat} {v : Value} {vs : List CV} {w w' : World} {x : CV} {g cap : Nat} (h : GotAt B v vs w) (hn : w'.ownsRow B 24 7 (.slice (some ⟨g, 0, none⟩) (vs.length + 1) cap) (vs.length + 1) (vs.flatMap CV.cells ++ x.cells))
    (hg : w.grownBy w' v.ownBlock) (hw : v.ownBlock = some g ∨ w.heap.size ≤ g) {a b : Nat} (ha : B ≤ a) (hb : b ≤ w.heap.size) (hp : Sl w a b x.p x.c.pr) (hd : Sl w a b x.d x.c.dr) (hv : ∀ g, v.ownBlock = some g → g < a ∨ b ≤ g) :
    GotAt B (.slice (some ⟨g, 0, none⟩) (vs.length + 1) cap) (vs ++ [x]) w' := by
  have all : ∀ a b, b ≤ w.heap.size → (∀ g, v.ownBlock = some g → g < a ∨ b ≤ g) → (∀ k, a ≤ k → k < b → w'.heap[k]? = w.heap[k]?) ∧ (g < a ∨ b ≤ g) := by
    intro a b hb hv
    refine ⟨fun k k1 k2 => hg.block k (by omega) (fun e => by rcases hv k e.symm with h | h <;> omega), ?_⟩
    rcases hw with h1 | h1
    · exact hv g h1
    · exact .inr (by omega)
  refine ⟨by simpa using hn, fun y hy => ?_⟩
  rcases List.mem_append.1 hy with hy | hy
  · obtain ⟨a, b, h1, h2, h3, h4, h5⟩ := h.rows y hy
    obtain ⟨q1, q2⟩ := all a b h2 h5
    exact ⟨a, b, h1, Nat.le_trans h2 hg.size, h3.move (Nat.le_refl _) (Nat.le_refl _) q1, h4.move (Nat.le_refl _) (Nat.le_refl _) q1, fun g' e => by simp [Value.ownBlock] at e; subst e; exact q2⟩
  · obtain rfl : y = x := by simpa using hy
    obtain ⟨q1, q2⟩ := all a b hb hv
    exact ⟨a, b, ha, Nat.le_trans hb hg.size, hp.move (Nat.le_refl _) (Nat.le_refl _) q1, hd.move (Nat.le_refl _) (Nat.le_refl _) q1, fun g' e => by simp [Value.ownBlock] at e; subst e; exact q2⟩
theorem GotAt.coms {B : Nat} {vs : List CV} {w : World} {g cap n : Nat} (h : GotAt B (.slice (some ⟨g, 0, none⟩) n cap) vs w) (hg : 0 < vs.length) : ComsAt w B w.heap.size g 0 (vs.map CV.c) := by
  refine ⟨(h.own.lt g rfl).2, fun i c hc => ?_⟩
  rw [List.getElem?_map] at hc
  obtain ⟨x, hx, rfl⟩ := Option.map_eq_some_iff.1 hc
  obtain ⟨a, b, h1, h2, h3, h4, h5⟩ := h.rows x (List.mem_of_getElem? hx)
  have hcell : ∀ j u, j < 7 → x.cells[j]? = some u → w.cell? ⟨g, 0 + i * 7 + j, none⟩ = some u := by
    intro j u hj hu
    have := h.own.cells (g := g) rfl (i * 7 + j) u (by rw [cells_at vs i x j hx hj]; exact hu)
    rw [Addr.add_lit] at this
    rw [Nat.add_assoc]
    exact this
  refine ⟨x.p, x.d, h3.move h1 h2 (fun _ _ _ => rfl), h4.move h1 h2 (fun _ _ _ => rfl), hcell 0 _ (by decide) rfl, hcell 1 _ (by decide) rfl, hcell 2 _ (by decide) rfl, hcell 3 _ (by decide) rfl, hcell 4 _ (by decide) rfl, hcell 5 _ (by decide) rfl, hcell 6 _ (by decide) rfl⟩

theorem parse_good (c : Cmd) (w : World) (hg : goodP c) :
    Calls Try.prog 19 #[.string (bs (enc c))] w fun e w' => ∃ pa pc da dc, e = .returned (.tuple #[.agg #[.int .i64 c.kind, .int .i64 c.id, .int .i64 c.n, .bool c.good, .slice pa c.pr.length pc, .slice da c.dr.length dc, .string c.data], .int .i64 0]) ∧
      Sl w' w.heap.size w'.heap.size (.slice pa c.pr.length pc) c.pr ∧ Sl w' w.heap.size w'.heap.size (.slice da c.dr.length dc) c.dr ∧ Below w.heap.size w w' := by
  have hl := enc_len hg.fit
  refine (parse_calls (bs (enc c)) w (by rw [bs_size]; omega)).mono ?_
  rintro e w' ⟨c', p, d, k, rfl, h1, h2, h3, _, h5⟩
  obtain ⟨rfl, rfl⟩ := h3 (parseP_enc hg)
  rw [rdP_enc hg] at *
  obtain ⟨pa, pc, rfl⟩ := h1.slice
  obtain ⟨da, dc, rfl⟩ := h2.slice
  exact ⟨pa, pc, da, dc, rfl, h1, h2, h5⟩

theorem encs_mem {cs : List Cmd} {c : Cmd} (h : c ∈ cs) : (enc c).length ≤ (encs cs).length := by
  induction cs with
  | nil => simp at h
  | cons x xs ih =>
    have e : (encs (x :: xs)).length = (txB ⟨(enc x).toArray⟩).length + (encs xs).length := by simp [encs]
    rcases List.mem_cons.1 h with rfl | h
    · have h2 : (txB ⟨(enc c).toArray⟩).length = 4 + (enc c).length := by simp [txB, le4_len]
      omega
    · have := ih h
      omega
theorem encs_drop {cs : List Cmd} {k : Nat} {c : Cmd} (h : cs[k]? = some c) : encs (cs.drop k) = txB (bs (enc c)) ++ encs (cs.drop (k + 1)) := by
  obtain ⟨hlt, e⟩ := List.getElem?_eq_some_iff.1 h
  rw [List.drop_eq_getElem_cons hlt, e]
  simp [encs, bs]

/-- what the loop of Split keeps -/
structure SpAt (w : World) (cs : List Cmd) (k : Nat) (v : Value) (wr : World) : Prop where
  eye : EyeAt w.heap.size (bs (encs (cs.drop k))) false wr
  got : ∃ vs : List CV, vs.map CV.c = cs.take k ∧ vs.length = k ∧ GotAt (w.heap.size + 1) v vs wr
  bel : Below w.heap.size w wr

set_option maxRecDepth 100000 in
set_option maxHeartbeats 2000000 in
theorem split_calls (cs : List Cmd) (w : World) (hn : cs.length ≤ 3) (hn0 : 0 < cs.length) (hg : ∀ c ∈ cs, goodP c) :
    Calls Try.prog 23 #[.string (bs (allB cs))] w fun e w' => ∃ lb cap, e = .returned (.tuple #[.slice (some ⟨lb, 0, none⟩) cs.length cap, .int .i64 0]) ∧ ComsAt w' w.heap.size w'.heap.size lb 0 cs ∧ Below w.heap.size w w' := by
  have HG := Lib.hid hg
  have hes := encs_len (cs := cs) (fun c hc => (hg c hc).fit)
  obtain ⟨n, hnn⟩ : ∃ n, cs.length = n := ⟨_, rfl⟩
  have hnum : numE (bs (allB cs)) false 400 = ((n : Int), bs (encs (cs.drop 0)), false) := by
    rw [allB, numE_bs _ _ _ (by omega) (by omega) (by omega), hnn, List.drop_zero]
  have hlen : ((bs (allB cs)).size : Int) ≤ 20000 := by rw [bs_size, allB, List.length_append, le4_len]; omega
  have hlow : ((encs cs).length : Int) ≤ ((bs (allB cs)).size : Int) := by rw [bs_size, allB, List.length_append, le4_len]; omega
  rw [hnn] at hn hn0 ⊢
  have HNN := Lib.hid hnn
  generalize bs (allB cs) = s at hnum hlen hlow ⊢
  have HNM := Lib.hid hnum
  clear hg hnn hnum
  go_enter Try.func23, Try.ntmps23
  go_upto_region 3 with (go_at_call 39; refine (of_calls _ _).mono ?_; rintro e w' ⟨rfl, rfl⟩)
  have hnm : ∀ W, EyeAt w.heap.size s false W → Calls Try.prog 49 #[.pointer (some ⟨w.heap.size, 0, none⟩), .int .i64 400] W fun e w' => e = .returned (.int .i64 n) ∧ EyeAt w.heap.size (bs (encs (cs.drop 0))) false w' ∧ Out [w.heap.size] W w' := by
    intro W h
    have h := eye_num w.heap.size s false 400 W h (by omega)
    rw [HNM.out] at h
    exact h
  have HNM2 := Lib.hid hnm
  have HMEM := Lib.hid (fun c (h : c ∈ cs) => encs_mem h)
  clear hnm
  go_wp2_with (go_at_call 49; refine (HNM2.out _ (by exact heap_alloc_new _ _)).mono ?_; rintro e w1 ⟨rfl, h1, h2⟩; have H1 := Lib.hid h1; have H2 := Lib.hid h2; clear h1 h2)
  go_loopw [5, 13] (fun v i wr => ∃ k : Nat, k ≤ n ∧ i = .int .i64 k ∧ SpAt w cs k v wr) (fun _ i _ => n - (intOf i).toNat)
  case atStart =>
    have h2 := H2.out
    have hz := h2.size
    simp at hz
    exact ⟨0, by omega, rfl, H1.out, ⟨[], by simp, rfl, GotAt.nil _ _⟩, Below.trans ((Below.refl _ w).alloc (Nat.le_refl _) _) (h2.below (by simp) (by simp))⟩
  case round =>
    obtain ⟨k, hk, rfl, hS⟩ := hrel
    have HS := Lib.hid hS
    clear hS
    by_cases hlt : k < n
    · obtain ⟨c, hc⟩ : ∃ c, cs[k]? = some c := ⟨cs[k]'(by rw [HNN.out]; exact hlt), List.getElem?_eq_getElem _⟩
      have hgc := HG.out c (List.mem_of_getElem? hc)
      have hel := enc_len hgc.fit
      have hem := HMEM.out c (List.mem_of_getElem? hc)
      have hds := encs_drop hc
      have hdl : ((encs (cs.drop k)).length : Int) ≤ 20000 := by
        have h1 := encs_len (cs := cs.drop k) (fun x hx => (HG.out x (List.mem_of_mem_drop hx)).fit)
        have h2 : (cs.drop k).length ≤ 3 := by rw [List.length_drop, HNN.out]; omega
        omega
      have htx : ∀ W, EyeAt w.heap.size (bs (encs (cs.drop k))) false W → Calls Try.prog 50 #[.pointer (some ⟨w.heap.size, 0, none⟩), .int .i64 s.size] W fun e w' => e = .returned (.string (bs (enc c))) ∧ EyeAt w.heap.size (bs (encs (cs.drop (k + 1)))) false w' ∧ Out [w.heap.size] W w' := by
        intro W h
        have h := eye_text w.heap.size (bs (encs (cs.drop k))) false s.size W h (by rw [bs_size]; omega)
        rw [hds, textE_bs _ _ _ (by rw [bs_size]; omega) (by rw [bs_size]; omega)] at h
        exact h
      obtain ⟨heye, ⟨vs, hvs, hvl, hgot⟩, hbel⟩ := HS.out
      have HVS := Lib.hid hvs
      obtain ⟨va, vc, rfl, hvc, -⟩ := own_slice hgot.own
      rw [hvl] at hvc hgot
      have HGOT := Lib.hid hgot
      have HVL := Lib.hid hvl
      have HTX := Lib.hid htx
      have HEY := Lib.hid heye
      have HPG := Lib.hid (fun W => parse_good c W hgc)
      have HC := Lib.hid hc
      clear hgot hvs htx heye hc hgc hel hem hds hdl hbel
      go_upto_region 8 with (first
        | (go_at_call 50; refine (HTX.out _ HEY.out).mono ?_; rintro e w1 ⟨rfl, h1, h2⟩; have H1 := Lib.hid h1; have H2 := Lib.hid h2; have hs2 := h2.size; clear h1 h2)
        | (go_at_call 19; refine (HPG.out _).mono ?_; rintro e w2 ⟨pa, pc, da, dc, rfl, h3, h4, h5⟩; have H3 := Lib.hid h3; have H4 := Lib.hid h4; have H5 := Lib.hid h5; have hs5 := h5.size; clear h3 h4 h5)
        | fail)
      have hew : w.heap.size < wr.heap.size := lt_of_block HEY.out
      have hg1 := HGOT.out.out H2.out (by intro x hx; simp at hx; left; omega)
      have hg2 := hg1.below H5.out
      have heye := (H5.out.block w.heap.size (by omega)).trans H1.out
      have hX := Lib.hid (rfl : (CV.mk c (.slice pa c.pr.length pc) (.slice da c.dr.length dc)).cells = [.int .i64 c.kind, .int .i64 c.id, .int .i64 c.n, .bool c.good, .slice pa c.pr.length pc, .slice da c.dr.length dc, .string c.data])
      have hw3 : Below w2.heap.size w2 (w2.alloc (.cells #[.int .i64 c.kind, .int .i64 c.id, .int .i64 c.n, .bool c.good, .slice pa c.pr.length pc, .slice da c.dr.length dc, .string c.data] 24)) := (Below.refl _ _).alloc (Nat.le_refl _) _
      have hg3 := hg2.below hw3
      have hc3 : (w2.alloc (.cells #[.int .i64 c.kind, .int .i64 c.id, .int .i64 c.n, .bool c.good, .slice pa c.pr.length pc, .slice da c.dr.length dc, .string c.data] 24)).heap[w2.heap.size]? = some (.cells (c.vals (.slice pa c.pr.length pc) (.slice da c.dr.length dc)) 24 (0, 0)) := heap_alloc_new _ _
      have hs3 : (w2.alloc (.cells #[.int .i64 c.kind, .int .i64 c.id, .int .i64 c.n, .bool c.good, .slice pa c.pr.length pc, .slice da c.dr.length dc, .string c.data] 24)).heap.size = w2.heap.size + 1 := by simp
      generalize w2.alloc (.cells #[.int .i64 c.kind, .int .i64 c.id, .int .i64 c.n, .bool c.good, .slice pa c.pr.length pc, .slice da c.dr.length dc, .string c.data] 24) = w3 at hw3 hg3 hc3 hs3 ⊢
      obtain ⟨c0, c1, c2, c3, c4, c5, c6, -⟩ := cmd_cells (r := c) hc3
      have x1 : w3.ownsRow (w.heap.size + 1) 24 7 (.slice va k vc) k (vs.flatMap CV.cells) := by have := hg3.own; rw [HVL.out] at this; exact this
      have x2 : w.heap.size + 1 ≤ w3.heap.size := by omega
      have X1 := Lib.hid x1; have HG3 := Lib.hid hg3; have HEY3 := Lib.hid heye; have HW3 := Lib.hid hw3; have HS3 := Lib.hid hs3
      clear x1 hg1 hg2 hg3 heye hw3 hc3 hs3
      have hk16 : k + 1 ≤ 16777216 := by omega
      go_wp2_with (at_builtin; refine wpList_app rfl _ _ 44 rfl elemCmd (w.heap.size + 1) (.slice va k vc) k (vs.flatMap CV.cells) rfl X1.out 1 1 rfl rfl rfl (by decide) hk16 (by decide) x2 ?_; intro g cap w4 hown4 hgrow4 hg4; have HO4 := Lib.hid hown4; have HG4 := Lib.hid hgrow4; clear hown4 hgrow4)
      go_roundw
      case rel =>
        have h1 := HGOT.out.own.lt
        have h2 := HG3.out.own.lt
        have e5 := HEY3.out
        have e4 : EyeAt w.heap.size (bs (encs (cs.drop (k + 1)))) false w4 := (HG4.out.block w.heap.size (by have := HS3.out; omega) (fun e => by have := (h2 _ e.symm).1; omega)).trans ((HW3.out.block w.heap.size (by omega)).trans e5)
        have hb1 : Below w.heap.size w w1 := HS.out.bel.trans (H2.out.below (by simp) HS.out.bel.size)
        have hb2 : Below w.heap.size w w3 := (hb1.trans (H5.out.mono hb1.size)).trans (HW3.out.mono (by have := hb1.size; omega))
        refine ⟨k + 1, by omega, by go_num, e4, ⟨vs ++ [⟨c, .slice pa c.pr.length pc, .slice da c.dr.length dc⟩], ?_, ?_, ?_⟩, ?_⟩
        · rw [List.map_append, HVS.out, List.take_add_one, HC.out]; rfl
        · rw [List.length_append, HVL.out]; rfl
        · have h := HO4.out
          rw [← HVL.out] at h ⊢
          refine GotAt.snoc HG3.out h HG4.out hg4 (a := w1.heap.size) (b := w2.heap.size) (by omega) (by have := HS3.out; omega) (H3.out.below HW3.out (Nat.le_refl _) (Nat.le_refl _)) (H4.out.below HW3.out (Nat.le_refl _) (Nat.le_refl _)) ?_
          intro g' e
          have := (h1 g' e).2
          left; omega
        · exact bel_grown hb2 HG4.out (Nat.le_refl _) (fun j hj => by have := (h2 j hj).1; omega)
      case measure => simp [intOf]; omega
    · obtain rfl : k = n := by omega
      have hend : ∀ W, EyeAt w.heap.size (bs (encs (cs.drop k))) false W → Calls Try.prog 41 #[.pointer (some ⟨w.heap.size, 0, none⟩)] W fun e w' => e = .returned (.int .i64 0) ∧ w' = W := by
        intro W h
        have h := eye_end w.heap.size _ false W h
        rw [List.drop_of_length_le (by rw [HNN.out]; omega), bs_size] at h
        exact h
      obtain ⟨heye, ⟨vs, hvs, hvl, hgot⟩, hbel⟩ := HS.out
      obtain ⟨g, cap, rfl, -, -⟩ := hgot.own.form (by omega)
      rw [hvl] at hgot
      have HED := Lib.hid (hend _ heye)
      have HGOT := Lib.hid hgot
      have HVS := Lib.hid hvs
      have HVL := Lib.hid hvl
      clear hvl hvs hgot heye hend hbel
      go_wp2_with (go_at_call 41; refine HED.out.mono ?_; rintro e w' ⟨rfl, rfl⟩)
      go_ret2
      have h := HGOT.out.coms (by have := HVL.out; omega)
      rw [HVS.out, List.take_of_length_le (by rw [HNN.out]; omega)] at h
      refine ⟨g, cap, by have e := HVL.out; subst e; rfl, ⟨h.1, fun i c hc => by obtain ⟨p, d, a1, a2, a3⟩ := h.2 i c hc; exact ⟨p, d, a1.move (by omega) (Nat.le_refl _) (fun _ _ _ => rfl), a2.move (by omega) (Nat.le_refl _) (fun _ _ _ => rfl), a3⟩⟩, HS.out.bel⟩
end Go.Proofs.Ytbedamkeeongfaa
