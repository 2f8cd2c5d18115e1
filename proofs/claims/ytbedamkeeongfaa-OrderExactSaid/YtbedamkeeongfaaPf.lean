/- The walk of OrderExact. -/
import Derived.Test.YtbedamkeeongfaaPe
namespace Go.Proofs.Ytbedamkeeongfaa
open Go.RowKit Go.Proofs.Ytbedamkeeongfaa.Mem
set_option linter.unusedVariables false

theorem bel_next {w W W' : World} (h : Below w.heap.size w W) (k : Below W.heap.size W W') : Below w.heap.size w W' := h.trans (k.mono h.size)
theorem bel_alloc {w W : World} (h : Below w.heap.size w W) (o : Obj) : Below w.heap.size w (W.alloc o) := h.alloc h.size o

theorem undef_ne {b : Bool} (h : some undef = some (Value.bool b)) : False := by
  injection h with h
  unfold undef at h
  cases h
theorem sl_drew {W : World} {v : Value} {xs : List Int} (h : Sl W 0 W.heap.size v xs) : Sl W.drew 0 W.drew.heap.size v xs := h

/-- the order's answers about a command: whether it can be, its bytes -/
def gB (g : Bool) (c : Cmd) : ByteArray := if g = true then ⟨(enc c).toArray⟩ else ⟨#[]⟩
def gE (g : Bool) : Int := if g = true then 0 else 1
section
variable {w : World} {c : Cmd} {p d : Value} {g : Bool}
theorem refgood_lit (hi : In w c p d) (hg : g = true ↔ goodP c) {W : World} (hb : Below w.heap.size w W) :
    Calls Try.prog 8 #[.agg #[.int .i64 c.kind, .int .i64 c.id, .int .i64 c.n, .bool c.good, p, d, .string c.data]] W fun e w' => e = .returned (.bool g) ∧ Below W.heap.size W w' :=
  (refgood_calls c p d 0 w.heap.size W (hi.pb hb) (hi.db hb) hb.size).mono fun e w' ⟨r, h1, h2, h3⟩ => ⟨by rw [h1, show r = g by rw [Bool.eq_iff_iff, h2, hg]], h3⟩
theorem good_lit2 (hi : In w c p d) (hg : g = true ↔ goodP c) {W : World} (hb : Below w.heap.size w W) :
    Calls Try.prog 11 #[.agg #[.int .i64 c.kind, .int .i64 c.id, .int .i64 c.n, .bool c.good, p, d, .string c.data]] W fun e w' => e = .returned (.bool g) ∧ Below W.heap.size W w' :=
  (good_calls c p d 0 w.heap.size W (hi.pb hb) (hi.db hb) hb.size).mono fun e w' ⟨r, h1, h2, h3⟩ => ⟨by rw [h1, show r = g by rw [Bool.eq_iff_iff, h2, hg]], h3⟩
theorem bytes_lit (hi : In w c p d) (hg : g = true ↔ goodP c) {W : World} (hb : Below w.heap.size w W) :
    Calls Try.prog 9 #[.agg #[.int .i64 c.kind, .int .i64 c.id, .int .i64 c.n, .bool c.good, p, d, .string c.data]] W fun e w' => e = .returned (.tuple #[.string (gB g c), .int .i64 (gE g)]) ∧ Below W.heap.size W w' :=
  (bytes_calls c p d 0 w.heap.size W (hi.pb hb) (hi.db hb) hb.size).mono fun e w' ⟨s, k, h1, h2, h3, h4⟩ => ⟨by
    rw [h1]
    cases g with
    | true => have := hg.1 rfl; rw [(h2 this).1, (h2 this).2]; rfl
    | false => have h : ¬ goodP c := fun h => by have := hg.2 h; simp at this
               rw [(h3 h).1, (h3 h).2]; rfl, h4⟩
theorem copy_lit (hi : In w c p d) {W : World} (hb : Below w.heap.size w W) :
    Calls Try.prog 10 #[.agg #[.int .i64 c.kind, .int .i64 c.id, .int .i64 c.n, .bool c.good, p, d, .string c.data]] W fun e w' => ∃ p' d', e = .returned (.agg #[.int .i64 c.kind, .int .i64 c.id, .int .i64 c.n, .bool c.good, p', d', .string c.data]) ∧ Sl w' 0 w'.heap.size p' c.pr ∧ Sl w' 0 w'.heap.size d' c.dr ∧ Below W.heap.size W w' :=
  (copy_calls c p d 0 w.heap.size W (hi.pb hb) (hi.db hb) hb.size).mono fun e w' ⟨p', d', h1, h2, h3, h4⟩ => ⟨p', d', h1, h2.move (Nat.zero_le _) (Nat.le_refl _) (fun _ _ _ => rfl), h3.move (Nat.zero_le _) (Nat.le_refl _) (fun _ _ _ => rfl), h4⟩
theorem trim_lit (hi : In w c p d) {W : World} (hb : Below w.heap.size w W) :
    Calls Try.prog 17 #[.agg #[.int .i64 c.kind, .int .i64 c.id, .int .i64 c.n, .bool c.good, p, d, .string c.data]] W fun e w' => ∃ p' d', e = .returned (.agg #[.int .i64 c.trim.kind, .int .i64 c.trim.id, .int .i64 c.trim.n, .bool c.trim.good, p', d', .string c.trim.data]) ∧ Sl w' 0 w'.heap.size p' c.trim.pr ∧ Sl w' 0 w'.heap.size d' c.trim.dr ∧ Below W.heap.size W w' :=
  (trim_calls c p d 0 w.heap.size W (hi.pb hb) (hi.db hb) hb.size).mono fun e w' ⟨p', d', h1, h2, h3, h4⟩ => ⟨p', d', h1, h2.move (Nat.zero_le _) (Nat.le_refl _) (fun _ _ _ => rfl), h3.move (Nat.zero_le _) (Nat.le_refl _) (fun _ _ _ => rfl), h4⟩
theorem refbytes_lit (hi : In w c p d) (hg : goodP c) {W : World} (hb : Below w.heap.size w W) :
    Calls Try.prog 16 #[.agg #[.int .i64 c.kind, .int .i64 c.id, .int .i64 c.n, .bool c.good, p, d, .string c.data]] W fun e w' => e = .returned (.string ⟨(enc c).toArray⟩) ∧ Below W.heap.size W w' :=
  refbytes_calls c p d 0 w.heap.size W (hi.pb hb) (hi.db hb) hg.fit
/-- alike and Same of a command and itself, wherever its rows lie -/
theorem alike_self {p' d' : Value} {W : World} {A1 B1 A2 B2 A3 B3 A4 B4 : Nat} (h1 : Sl W A1 B1 p' c.pr) (h2 : Sl W A2 B2 d' c.dr) (h3 : Sl W A3 B3 p c.pr) (h4 : Sl W A4 B4 d c.dr) :
    Calls Try.prog 14 #[.agg #[.int .i64 c.kind, .int .i64 c.id, .int .i64 c.n, .bool c.good, p', d', .string c.data], .agg #[.int .i64 c.kind, .int .i64 c.id, .int .i64 c.n, .bool c.good, p, d, .string c.data]] W fun e w' => e = .returned (.bool true) ∧ Below W.heap.size W w' :=
  (alike_calls c c p' d' p d A1 B1 A2 B2 A3 B3 A4 B4 W h1 h2 h3 h4).mono fun e w' ⟨h1, h2⟩ => ⟨by rw [h1]; simp, h2⟩
theorem same_self {p' d' : Value} {W : World} {A1 B1 A2 B2 A3 B3 A4 B4 : Nat} (h1 : Sl W A1 B1 p' c.pr) (h2 : Sl W A2 B2 d' c.dr) (h3 : Sl W A3 B3 p c.pr) (h4 : Sl W A4 B4 d c.dr) :
    Calls Try.prog 15 #[.agg #[.int .i64 c.kind, .int .i64 c.id, .int .i64 c.n, .bool c.good, p', d', .string c.data], .agg #[.int .i64 c.kind, .int .i64 c.id, .int .i64 c.n, .bool c.good, p, d, .string c.data]] W fun e w' => e = .returned (.bool true) ∧ Below W.heap.size W w' :=
  (same_calls c c p' d' p d A1 B1 A2 B2 A3 B3 A4 B4 W h1 h2 h3 h4).mono fun e w' ⟨r, h1, h2, h3⟩ => ⟨by rw [h1, h2.2 rfl], h3⟩
end

/-- what holds in the region of the first great test -/
structure JX (w : World) (c : Cmd) (p d px dx : Value) (bu bx : Nat) (W : World) : Prop where
  bel : Below w.heap.size w W
  keep : Keep [(w.heap.size, .cells (c.vals p d) 24), (bu, .cells (c.vals p d) 27), (bx, .cells (c.vals px dx) 24)] W
  sx : Sl W 0 W.heap.size px c.pr
  tx : Sl W 0 W.heap.size dx c.dr
section
variable {w : World} {c : Cmd} {p d px dx : Value} {bu bx : Nat} {W : World} {g : Bool}
theorem JX.next (h : JX w c p d px dx bu bx W) {W' : World} (k : Below W.heap.size W W') : JX w c p d px dx bu bx W' :=
  ⟨bel_next h.bel k, h.keep.below k, h.sx.below k (Nat.le_refl _) k.size, h.tx.below k (Nat.le_refl _) k.size⟩
theorem JX.all (h : JX w c p d px dx bu bx W) : JX w c p d px dx bu bx W ∧ W.cell? ⟨w.heap.size, 0, none⟩ = some (.int .i64 c.kind) ∧ W.cell? ⟨w.heap.size, 1, none⟩ = some (.int .i64 c.id) ∧ W.cell? ⟨w.heap.size, 2, none⟩ = some (.int .i64 c.n) ∧ W.cell? ⟨w.heap.size, 3, none⟩ = some (.bool c.good) ∧ W.cell? ⟨w.heap.size, 4, none⟩ = some p ∧ W.cell? ⟨w.heap.size, 5, none⟩ = some d ∧ W.cell? ⟨w.heap.size, 6, none⟩ = some (.string c.data) ∧ W.cell? ⟨bu, 0, none⟩ = some (.int .i64 c.kind) ∧ W.cell? ⟨bu, 1, none⟩ = some (.int .i64 c.id) ∧ W.cell? ⟨bu, 2, none⟩ = some (.int .i64 c.n) ∧ W.cell? ⟨bu, 3, none⟩ = some (.bool c.good) ∧ W.cell? ⟨bu, 4, none⟩ = some p ∧ W.cell? ⟨bu, 5, none⟩ = some d ∧ W.cell? ⟨bu, 6, none⟩ = some (.string c.data) ∧ W.cell? ⟨bx, 0, none⟩ = some (.int .i64 c.kind) ∧ W.cell? ⟨bx, 1, none⟩ = some (.int .i64 c.id) ∧ W.cell? ⟨bx, 2, none⟩ = some (.int .i64 c.n) ∧ W.cell? ⟨bx, 3, none⟩ = some (.bool c.good) ∧ W.cell? ⟨bx, 4, none⟩ = some px ∧ W.cell? ⟨bx, 5, none⟩ = some dx ∧ W.cell? ⟨bx, 6, none⟩ = some (.string c.data) := by
  obtain ⟨c0, c1, c2, c3, c4, c5, c6, -⟩ := cmd_cells (r := c) (p := p) (d := d) (t := 24) (h.keep w.heap.size _ (by simp))
  obtain ⟨u0, u1, u2, u3, u4, u5, u6, -⟩ := cmd_cells (r := c) (p := p) (d := d) (t := 27) (h.keep bu _ (by simp))
  obtain ⟨x0, x1, x2, x3, x4, x5, x6, -⟩ := cmd_cells (r := c) (p := px) (d := dx) (t := 24) (h.keep bx _ (by simp))
  exact ⟨h, c0, c1, c2, c3, c4, c5, c6, u0, u1, u2, u3, u4, u5, u6, x0, x1, x2, x3, x4, x5, x6⟩
theorem good_J (hi : In w c p d) (hg : g = true ↔ goodP c) (h : JX w c p d px dx bu bx W) :
    Calls Try.prog 11 #[.agg #[.int .i64 c.kind, .int .i64 c.id, .int .i64 c.n, .bool c.good, p, d, .string c.data]] W fun e w' => e = .returned (.bool g) ∧ JX w c p d px dx bu bx w' := (good_lit2 hi hg h.bel).mono fun _ _ ⟨h1, h2⟩ => ⟨h1, h.next h2⟩
theorem name_J (nb : ByteArray) (hn : nameB c.kind = nb) (h : JX w c p d px dx bu bx W) :
    Calls Try.prog 12 #[.int .i64 c.kind] W fun e w' => e = .returned (.string nb) ∧ JX w c p d px dx bu bx w' := (name_calls c.kind W).mono fun _ _ ⟨h1, h2⟩ => ⟨by rw [h1, hn], h.next h2⟩
theorem refname_J (nb : ByteArray) (hn : nameB c.kind = nb) (h : JX w c p d px dx bu bx W) :
    Calls Try.prog 13 #[.int .i64 c.kind] W fun e w' => e = .returned (.string nb) ∧ JX w c p d px dx bu bx w' := (refname_calls c.kind W).mono fun _ _ ⟨h1, h2⟩ => ⟨by rw [h1, hn], h.next h2⟩
theorem alike_J (hi : In w c p d) (h : JX w c p d px dx bu bx W) :
    Calls Try.prog 14 #[.agg #[.int .i64 c.kind, .int .i64 c.id, .int .i64 c.n, .bool c.good, px, dx, .string c.data], .agg #[.int .i64 c.kind, .int .i64 c.id, .int .i64 c.n, .bool c.good, p, d, .string c.data]] W fun e w' => e = .returned (.bool true) ∧ JX w c p d px dx bu bx w' := (alike_self h.sx h.tx (hi.pb h.bel) (hi.db h.bel)).mono fun _ _ ⟨h1, h2⟩ => ⟨h1, h.next h2⟩
theorem same_J (hi : In w c p d) (h : JX w c p d px dx bu bx W) :
    Calls Try.prog 15 #[.agg #[.int .i64 c.kind, .int .i64 c.id, .int .i64 c.n, .bool c.good, px, dx, .string c.data], .agg #[.int .i64 c.kind, .int .i64 c.id, .int .i64 c.n, .bool c.good, p, d, .string c.data]] W fun e w' => e = .returned (.bool true) ∧ JX w c p d px dx bu bx w' := (same_self h.sx h.tx (hi.pb h.bel) (hi.db h.bel)).mono fun _ _ ⟨h1, h2⟩ => ⟨h1, h.next h2⟩
theorem refbytes_J (hi : In w c p d) (hg : goodP c) (h : JX w c p d px dx bu bx W) :
    Calls Try.prog 16 #[.agg #[.int .i64 c.kind, .int .i64 c.id, .int .i64 c.n, .bool c.good, p, d, .string c.data]] W fun e w' => e = .returned (.string ⟨(enc c).toArray⟩) ∧ JX w c p d px dx bu bx w' := (refbytes_lit hi hg h.bel).mono fun _ _ ⟨h1, h2⟩ => ⟨h1, h.next h2⟩
end

/-- a field of the command that is wanted -/
def wstep (c x : Cmd) (f : Nat) : Cmd :=
  if f = 1 then { x with id := c.id } else if f = 2 then { x with n := c.n } else if f = 3 then { x with good := c.good } else if f = 4 then { x with pr := c.pr } else if f = 5 then { x with dr := c.dr } else { x with data := c.data }
def wantF (c : Cmd) (fs : List Nat) : Cmd := fs.foldl (wstep c) ⟨c.kind, 0, 0, false, [], [], ⟨#[]⟩⟩
theorem wantF_snoc (c : Cmd) (fs : List Nat) (f : Nat) : wantF c (fs ++ [f]) = wstep c (wantF c fs) f := by simp [wantF]
theorem wantF_trim (c : Cmd) (h : 1 ≤ c.kind ∧ c.kind ≤ 13) : wantF c (fieldsOf c.kind) = c.trim := by
  unfold Cmd.trim
  rw [if_pos h]
  rcases fields_cases c.kind with e | e | e | e | e | e | e <;> rw [e] <;> simp [wantF, wstep]
theorem trim_zero (c : Cmd) (h : ¬ (1 ≤ c.kind ∧ c.kind ≤ 13)) : c.trim = Cmd.zero := by unfold Cmd.trim; rw [if_neg h]
theorem hasB_none (k : Int) (h : ¬ (1 ≤ k ∧ k ≤ 13)) : hasB k = ⟨#[]⟩ := by
  unfold hasB
  rw [if_neg (by omega), if_neg (by omega), if_neg (by omega), if_neg (by omega), if_neg (by omega), if_neg (by omega), if_neg (by omega), if_neg (by omega)]
/-- what the loop over the letters keeps -/
structure LI (w : World) (c : Cmd) (p d : Value) (by_ bw : Nat) (py dy : Value) (x : Cmd) (pw dw : Value) (W : World) : Prop where
  bel : Below w.heap.size w W
  keep : Keep [(w.heap.size, .cells (c.vals p d) 24), (by_, .cells (c.trim.vals py dy) 24)] W
  want : W.heap[bw]? = some (.cells (x.vals pw dw) 27 (0, 0))
  sy : Sl W 0 by_ py c.trim.pr
  ty : Sl W 0 by_ dy c.trim.dr
  lt : w.heap.size < by_ ∧ by_ < bw
  pw : pw = p ∧ x.pr = c.pr ∨ pw = .slice none 0 0 ∧ x.pr = []
  dw : dw = d ∧ x.dr = c.dr ∨ dw = .slice none 0 0 ∧ x.dr = []
theorem LI.set {w : World} {c : Cmd} {p d : Value} {by_ bw : Nat} {py dy : Value} {x : Cmd} {pw dw : Value} {W : World} (h : LI w c p d by_ bw py dy x pw dw W) (f : Nat) (v : Value) (x' : Cmd) (pw' dw' : Value)
    (hs : (x.vals pw dw).setIfInBounds f v = x'.vals pw' dw') (hp : pw' = p ∧ x'.pr = c.pr ∨ pw' = .slice none 0 0 ∧ x'.pr = []) (hd : dw' = d ∧ x'.dr = c.dr ∨ dw' = .slice none 0 0 ∧ x'.dr = []) :
    LI w c p d by_ bw py dy x' pw' dw' (W.setCell ⟨bw, f, none⟩ v) := by
  have hl := h.lt
  refine ⟨h.bel.setCell (p := ⟨bw, f, none⟩) (by simp; omega) _, fun b o hm => (Below.heap_setCell _ _ _ _ (by simp at hm ⊢; omega)).trans (h.keep b o hm), by rw [← hs]; exact heap_set h.want f v, h.sy.move (Nat.le_refl _) (Nat.le_refl _) (fun k _ hk => Below.heap_setCell _ _ _ _ (by simp; omega)), h.ty.move (Nat.le_refl _) (Nat.le_refl _) (fun k _ hk => Below.heap_setCell _ _ _ _ (by simp; omega)), hl, hp, hd⟩
theorem take_map (H : ByteArray) (j : Nat) (h : j < H.size) (f : Nat) (hf : fieldOf (H[j]'h) = f) : (H.data.toList.take (j + 1)).map fieldOf = (H.data.toList.take j).map fieldOf ++ [f] := by
  rw [List.take_add_one, List.getElem?_eq_getElem (show j < H.data.toList.length by simpa using h)]
  simp only [Option.toList_some, List.map_append, List.map_cons, List.map_nil]
  rw [← hf]
  rfl

/-- both answers of Parse, as one -/
theorem parse_both (s : ByteArray) (hs : (s.size : Int) ≤ 2048) : ∃ (C : Cmd) (k : Int) (b : Bool), (k = 0 ∧ b = true ∨ k = 5 ∧ b = false) ∧
    (∀ W, Calls Try.prog 19 #[.string s] W fun e w' => ∃ p' d', e = .returned (.tuple #[.agg #[.int .i64 C.kind, .int .i64 C.id, .int .i64 C.n, .bool C.good, p', d', .string C.data], .int .i64 k]) ∧ Sl w' 0 w'.heap.size p' C.pr ∧ Sl w' 0 w'.heap.size d' C.dr ∧ Below W.heap.size W w') ∧
    (∀ W, Calls Try.prog 20 #[.string s] W fun e w' => ∃ p' d', e = .returned (.tuple #[.agg #[.int .i64 C.kind, .int .i64 C.id, .int .i64 C.n, .bool C.good, p', d', .string C.data], .bool b]) ∧ Sl w' 0 w'.heap.size p' C.pr ∧ Sl w' 0 w'.heap.size d' C.dr ∧ Below W.heap.size W w') := by
  by_cases h : parseP s
  · refine ⟨(rdP s).c, 0, true, .inl ⟨rfl, rfl⟩, fun W => (parse_calls s W (by omega)).mono ?_, fun W => (refparse_calls s W (by omega)).mono ?_⟩
    · rintro e w' ⟨c, p, d, k, rfl, h1, h2, h3, _, h5⟩
      obtain ⟨rfl, rfl⟩ := h3 h
      exact ⟨p, d, rfl, h1.move (Nat.zero_le _) (Nat.le_refl _) (fun _ _ _ => rfl), h2.move (Nat.zero_le _) (Nat.le_refl _) (fun _ _ _ => rfl), h5⟩
    · rintro e w' ⟨c, p, d, k, rfl, h1, h2, h3, _, h5⟩
      obtain ⟨rfl, rfl⟩ := h3 h
      exact ⟨p, d, rfl, h1.move (Nat.zero_le _) (Nat.le_refl _) (fun _ _ _ => rfl), h2.move (Nat.zero_le _) (Nat.le_refl _) (fun _ _ _ => rfl), h5⟩
  · refine ⟨Cmd.zero, 5, false, .inr ⟨rfl, rfl⟩, fun W => (parse_calls s W (by omega)).mono ?_, fun W => (refparse_calls s W (by omega)).mono ?_⟩
    · rintro e w' ⟨c, p, d, k, rfl, h1, h2, _, h3, h5⟩
      obtain ⟨rfl, rfl⟩ := h3 h
      exact ⟨p, d, rfl, h1.move (Nat.zero_le _) (Nat.le_refl _) (fun _ _ _ => rfl), h2.move (Nat.zero_le _) (Nat.le_refl _) (fun _ _ _ => rfl), h5⟩
    · rintro e w' ⟨c, p, d, k, rfl, h1, h2, _, h3, h5⟩
      obtain ⟨rfl, rfl⟩ := h3 h
      exact ⟨p, d, rfl, h1.move (Nat.zero_le _) (Nat.le_refl _) (fun _ _ _ => rfl), h2.move (Nat.zero_le _) (Nat.le_refl _) (fun _ _ _ => rfl), h5⟩

set_option maxRecDepth 100000 in
set_option maxHeartbeats 4000000 in
theorem orderExact_walk (c : Cmd) (p d : Value) (s : ByteArray) (w : World) (hp : SlW w p c.pr) (hd : SlW w d c.dr) (hs : s.size ≤ maxLen) :
    Calls Try.prog 3 #[.agg (c.vals p d), .string s] w fun e w' => e = .returned (.bool true) ∧ Below w.heap.size w w' := by
  have hs' : (s.size : Int) ≤ 9223372036854775807 := by unfold maxLen at hs; omega
  obtain ⟨pa, pc, rfl⟩ := hp.slice
  obtain ⟨da, dc, rfl⟩ := hd.slice
  have HP := Lib.hid hp
  have HD := Lib.hid hd
  clear hp hd hs
  go_enter Try.func3, Try.ntmps3
  go_upto_region 1 with fail
  (try simp only [Act.put, List.setIfInBounds_toArray, List.set_cons_zero, List.set_cons_succ])
  have hb0 := bel_alloc (Below.refl w.heap.size w) (.cells (c.vals (.slice pa c.pr.length pc) (.slice da c.dr.length dc)) 24)
  have hk0 := (Keep.nil w).new (.cells (c.vals (.slice pa c.pr.length pc) (.slice da c.dr.length dc)) 24)
  generalize w.alloc (.cells (c.vals (.slice pa c.pr.length pc) (.slice da c.dr.length dc)) 24) = W0 at hb0 hk0 ⊢
  go_wp2_with fail
  (with_reducible refine (awake29 _).mono ?_)
  rintro e W1 ⟨rfl, h1⟩
  have hb1 := bel_next hb0 h1
  have hk1 := hk0.below h1
  obtain ⟨c0, c1, c2, c3, c4, c5, c6, -⟩ := cmd_cells (r := c) (p := .slice pa c.pr.length pc) (d := .slice da c.dr.length dc) (t := 24) (hk1 w.heap.size _ (by simp))
  have HB1 := Lib.hid hb1
  have HK1 := Lib.hid hk1
  have hgr := great_any c _ _ W1 (HP.out.below hb1) (HD.out.below hb1)
  clear hb0 hk0 h1 hb1 hk1
  obtain ⟨gb, hgb⟩ : ∃ gb, greatB c = gb := ⟨_, rfl⟩
  rw [hgb] at hgr
  have HGB := Lib.hid hgb
  have HGR := Lib.hid hgr
  clear hgb hgr
  cases gb with
  | true =>
    go_wp2_with (go_at_call 6; refine HGR.out.mono ?_; rintro e W2 ⟨rfl, h2⟩; have HB2 := Lib.hid (bel_next HB1.out h2); clear h2)
    go_ret
    exact ⟨rfl, HB2.out⟩
  | false =>
    by_cases hlen : (2048 : Int) < s.size
    · go_wp2_with (go_at_call 6; refine HGR.out.mono ?_; rintro e W2 ⟨rfl, h2⟩; have HB2 := Lib.hid (bel_next HB1.out h2); clear h2)
      go_ret
      exact ⟨rfl, HB2.out⟩
    · have hl2 : (s.size : Int) ≤ 2048 := by omega
      have hsm : (c.pr.length : Int) ≤ 40 ∧ (c.dr.length : Int) ≤ 40 := by
        have h := HGB.out
        simp only [greatB, Bool.or_eq_false_iff, decide_eq_false_iff_not] at h
        omega
      have HIN := Lib.hid (show In w c (.slice pa c.pr.length pc) (.slice da c.dr.length dc) from ⟨HP.out.sl (by omega), HD.out.sl (by omega)⟩)
      clear hlen hsm hs'
      go_upto_region 5 with (go_at_call 6; refine HGR.out.mono ?_; rintro e W2 ⟨rfl, h2⟩; have HB2 := Lib.hid (bel_next HB1.out h2); have hk2 := HK1.out.below h2; obtain ⟨e0, e1, e2, e3, e4, e5, e6, -⟩ := cmd_cells (r := c) (p := .slice pa c.pr.length pc) (d := .slice da c.dr.length dc) (t := 24) (hk2 w.heap.size _ (by simp)); have HK2 := Lib.hid hk2; clear h2 hk2)
      clear c0 c1 c2 c3 c4 c5 c6
      obtain ⟨g, hg⟩ : ∃ g : Bool, (g = true ↔ goodP c) := by
        by_cases h : goodP c
        · exact ⟨true, by simp [h]⟩
        · exact ⟨false, by simp [h]⟩
      have HG := Lib.hid hg
      obtain ⟨gb, hgb⟩ : ∃ gb, gB g c = gb := ⟨_, rfl⟩
      obtain ⟨ge, hge⟩ : ∃ ge, gE g = ge := ⟨_, rfl⟩
      have hby := fun (W : World) (hb : Below w.heap.size w W) => bytes_lit HIN.out HG.out hb
      rw [hgb, hge] at hby
      have HBY := Lib.hid hby
      have HGB2 := Lib.hid hgb
      have HGE2 := Lib.hid hge
      clear hg hby hgb hge
      go_upto_region 9 with (first | (go_at_call 7; refine (form_calls c pa da _ pc _ dc _).mono ?_; rintro e W3 ⟨rfl, h3⟩; have HB3 := Lib.hid (bel_alloc (bel_next HB2.out h3) (.cells (c.vals (.slice pa c.pr.length pc) (.slice da c.dr.length dc)) 27)); have hk3 := (HK2.out.below h3).new (.cells (c.vals (.slice pa c.pr.length pc) (.slice da c.dr.length dc)) 27); have HK3 := Lib.hid hk3; clear h3 hk3) | (go_at_call 8; refine (refgood_lit HIN.out HG.out HB3.out).mono ?_; rintro e W4 ⟨rfl, h4⟩; have HB4 := Lib.hid (bel_next HB3.out h4); have hk4 := HK3.out.below h4; obtain ⟨e0, e1, e2, e3, e4, e5, e6, -⟩ := cmd_cells (r := c) (p := .slice pa c.pr.length pc) (d := .slice da c.dr.length dc) (t := 24) (hk4 w.heap.size _ (by simp)); have HK4 := Lib.hid hk4; clear h4 hk4) | (go_at_call 9; refine (HBY.out _ HB4.out).mono ?_; rintro e W5 ⟨rfl, h5⟩; have HB5 := Lib.hid (bel_next HB4.out h5); have hk5 := HK4.out.below h5; obtain ⟨g0, g1, g2, g3, g4, g5, g6, -⟩ := cmd_cells (r := c) (p := .slice pa c.pr.length pc) (d := .slice da c.dr.length dc) (t := 24) (hk5 w.heap.size _ (by simp)); have HK5 := Lib.hid hk5; clear h5 hk5) | (go_at_call 10; refine (copy_lit HIN.out HB5.out).mono ?_; rintro e W6 ⟨px, dx, rfl, s6, t6, h6⟩; obtain ⟨pxa, pxc, rfl⟩ := s6.slice; obtain ⟨dxa, dxc, rfl⟩ := t6.slice; have S6 := Lib.hid s6; have T6 := Lib.hid t6; have HB6 := Lib.hid (bel_next HB5.out h6); have hk6 := HK5.out.below h6; have HK6 := Lib.hid hk6; clear h6 hk6 s6 t6))
      have hb7 := (bel_alloc HB6.out (.cells (c.vals (.slice pxa c.pr.length pxc) (.slice dxa c.dr.length dxc)) 24)).drew
      have hk7 := (HK6.out.new (.cells (c.vals (.slice pxa c.pr.length pxc) (.slice dxa c.dr.length dxc)) 24)).drew
      have hs7 := sl_drew (S6.out.below ((Below.refl _ W6).alloc (Nat.le_refl _) (.cells (c.vals (.slice pxa c.pr.length pxc) (.slice dxa c.dr.length dxc)) 24)) (Nat.le_refl _) ((Below.refl _ W6).alloc (Nat.le_refl _) (.cells (c.vals (.slice pxa c.pr.length pxc) (.slice dxa c.dr.length dxc)) 24)).size)
      have ht7 := sl_drew (T6.out.below ((Below.refl _ W6).alloc (Nat.le_refl _) (.cells (c.vals (.slice pxa c.pr.length pxc) (.slice dxa c.dr.length dxc)) 24)) (Nat.le_refl _) ((Below.refl _ W6).alloc (Nat.le_refl _) (.cells (c.vals (.slice pxa c.pr.length pxc) (.slice dxa c.dr.length dxc)) 24)).size)
      have hh : (W6.alloc (.cells (c.vals (.slice pxa c.pr.length pxc) (.slice dxa c.dr.length dxc)) 24)) = W6.alloc (.cells #[.int .i64 c.kind, .int .i64 c.id, .int .i64 c.n, .bool c.good, .slice pxa c.pr.length pxc, .slice dxa c.dr.length dxc, .string c.data] 24) := rfl
      have hj7 : JX w c (.slice pa c.pr.length pc) (.slice da c.dr.length dc) (.slice pxa c.pr.length pxc) (.slice dxa c.dr.length dxc) W3.heap.size W6.heap.size (W6.alloc (.cells (c.vals (.slice pxa c.pr.length pxc) (.slice dxa c.dr.length dxc)) 24)).drew := ⟨hb7, fun b o hm => hk7 b o (by simp only [List.mem_cons, List.not_mem_nil, or_false] at hm ⊢; rcases hm with h | h | h <;> simp [h]), hs7, ht7⟩
      rw [hh] at hj7
      clear hh e0 e1 e2 e3 e4 e5 e6 g0 g1 g2 g3 g4 g5 g6 hb7 hk7 hs7 ht7
      generalize W6.alloc (.cells #[.int .i64 c.kind, .int .i64 c.id, .int .i64 c.n, .bool c.good, .slice pxa c.pr.length pxc, .slice dxa c.dr.length dxc, .string c.data] 24) = W7 at hj7 ⊢
      have hge : (g = true → ge = 0) ∧ (g = false → ge = 1) := by rw [← HGE2.out]; exact ⟨fun h => by rw [h]; rfl, fun h => by rw [h]; rfl⟩
      have hgbv : (g = true → gb = ⟨(enc c).toArray⟩) ∧ (g = false → gb = ⟨#[]⟩) := by rw [← HGB2.out]; exact ⟨fun h => by rw [h]; rfl, fun h => by rw [h]; rfl⟩
      obtain ⟨nb, hnb⟩ : ∃ nb, nameB c.kind = nb := ⟨_, rfl⟩
      have HNB := Lib.hid hnb
      clear hnb HBY
      go_cut [87] from 18 (fun s87 wx => s87 = .bool false ∧ Below w.heap.size w wx ∧ Keep [(w.heap.size, .cells (c.vals (.slice pa c.pr.length pc) (.slice da c.dr.length dc)) 24)] wx)
      case first =>
        cases g with
        | true =>
          obtain rfl := hge.1 rfl
          obtain rfl := hgbv.1 rfl
          clear hge hgbv
          have HGP := Lib.hid (show goodP c from HG.out.1 (by simp))
          refine wp_region_held_drew (S := (fun W' => JX w c (.slice pa c.pr.length pc) (.slice da c.dr.length dc) (.slice pxa c.pr.length pxc) (.slice dxa c.dr.length dxc) W3.heap.size W6.heap.size W' ∧ W'.cell? ⟨w.heap.size, 0, none⟩ = some (.int .i64 c.kind) ∧ W'.cell? ⟨w.heap.size, 1, none⟩ = some (.int .i64 c.id) ∧ W'.cell? ⟨w.heap.size, 2, none⟩ = some (.int .i64 c.n) ∧ W'.cell? ⟨w.heap.size, 3, none⟩ = some (.bool c.good) ∧ W'.cell? ⟨w.heap.size, 4, none⟩ = some (.slice pa c.pr.length pc) ∧ W'.cell? ⟨w.heap.size, 5, none⟩ = some (.slice da c.dr.length dc) ∧ W'.cell? ⟨w.heap.size, 6, none⟩ = some (.string c.data) ∧ W'.cell? ⟨W3.heap.size, 0, none⟩ = some (.int .i64 c.kind) ∧ W'.cell? ⟨W3.heap.size, 1, none⟩ = some (.int .i64 c.id) ∧ W'.cell? ⟨W3.heap.size, 2, none⟩ = some (.int .i64 c.n) ∧ W'.cell? ⟨W3.heap.size, 3, none⟩ = some (.bool c.good) ∧ W'.cell? ⟨W3.heap.size, 4, none⟩ = some (.slice pa c.pr.length pc) ∧ W'.cell? ⟨W3.heap.size, 5, none⟩ = some (.slice da c.dr.length dc) ∧ W'.cell? ⟨W3.heap.size, 6, none⟩ = some (.string c.data) ∧ W'.cell? ⟨W6.heap.size, 0, none⟩ = some (.int .i64 c.kind) ∧ W'.cell? ⟨W6.heap.size, 1, none⟩ = some (.int .i64 c.id) ∧ W'.cell? ⟨W6.heap.size, 2, none⟩ = some (.int .i64 c.n) ∧ W'.cell? ⟨W6.heap.size, 3, none⟩ = some (.bool c.good) ∧ W'.cell? ⟨W6.heap.size, 4, none⟩ = some (.slice pxa c.pr.length pxc) ∧ W'.cell? ⟨W6.heap.size, 5, none⟩ = some (.slice dxa c.dr.length dxc) ∧ W'.cell? ⟨W6.heap.size, 6, none⟩ = some (.string c.data))) (by kernel_rfl) (JX.all hj7) (fun hHeld => ?_)
          first | (refine wpAnyH_take (i := 2) (oi := { dst := some 40, op := Op.move (Operand.tmp 6), type := 4, pos := "law.go:59", after := #[], guard := none }) (v := ?_) rfl (by kernel_rfl) (by kernel_rfl) (by kernel_rfl) (fun _ _ _ h => h) (Or.inl ⟨by rfl, ?_⟩) (by assumption) ?_; rotate_left; focus ((intro W' hSw; (try dsimp only at hSw); go_simp); try with_reducible rfl)) | refine wpAnyH_take (i := 2) (oi := { dst := some 40, op := Op.move (Operand.tmp 6), type := 4, pos := "law.go:59", after := #[], guard := none }) (v := undef) rfl (by kernel_rfl) (by kernel_rfl) (by kernel_rfl) (fun _ _ _ h => h) (Or.inr ⟨by rfl, rfl⟩) (by assumption) ?_
          (try simp only [Act.put, List.setIfInBounds_toArray, List.set_cons_zero, List.set_cons_succ])
          first | (refine wpAnyH_take (i := 0) (oi := { dst := some 38, op := Op.load 24 (Operand.tmp 2), type := 24, pos := "law.go:59", after := #[], guard := none }) (v := ?_) rfl (by kernel_rfl) (by kernel_rfl) (by kernel_rfl) (fun _ _ _ h => h) (Or.inl ⟨by rfl, ?_⟩) (by assumption) ?_; rotate_left; focus ((intro W' hSw; (try dsimp only at hSw); go_simp); try with_reducible rfl)) | refine wpAnyH_take (i := 0) (oi := { dst := some 38, op := Op.load 24 (Operand.tmp 2), type := 24, pos := "law.go:59", after := #[], guard := none }) (v := undef) rfl (by kernel_rfl) (by kernel_rfl) (by kernel_rfl) (fun _ _ _ h => h) (Or.inr ⟨by rfl, rfl⟩) (by assumption) ?_
          (try simp only [Act.put, List.setIfInBounds_toArray, List.set_cons_zero, List.set_cons_succ])
          refine wpAnyH_ready (rs := [1]) (by kernel_rfl) (by simp) ?_
          refine AllReadyH.cons (o := { dst := some 39, op := Op.call { callee := Callee.value (Operand.func 11), args := #[Operand.tmp 38], argTypes := #[24] }, type := 4, pos := "law.go:59", after := #[{ on := 0, ground := Ground.data }], guard := none }) rfl (fun K hK => ?_) AllReadyH.nil
          go_simp
          (with_reducible refine (good_J HIN.out HG.out hj7).mono ?_)
          rintro e W8 ⟨rfl, hj8⟩
          go_wp2_with fail
          refine hK.out _ _ (JX.all hj8) (fun hHeld8 => ?_)
          clear hK K
          (try simp only [Act.put, List.setIfInBounds_toArray, List.set_cons_zero, List.set_cons_succ])
          first | (refine wpAnyH_take (i := 3) (oi := { dst := some 41, op := Op.binOp BinOp.neq 4 (Operand.tmp 39) (Operand.tmp 40) 4, type := 4, pos := "law.go:59", after := #[{ on := 1, ground := Ground.data }, { on := 2, ground := Ground.data }], guard := none }) (v := ?_) rfl (by kernel_rfl) (by kernel_rfl) (by kernel_rfl) (fun _ _ _ h => h) (Or.inl ⟨by rfl, ?_⟩) (by assumption) ?_; rotate_left; focus ((intro W' hSw; (try dsimp only at hSw); go_simp); try with_reducible rfl)) | refine wpAnyH_take (i := 3) (oi := { dst := some 41, op := Op.binOp BinOp.neq 4 (Operand.tmp 39) (Operand.tmp 40) 4, type := 4, pos := "law.go:59", after := #[{ on := 1, ground := Ground.data }, { on := 2, ground := Ground.data }], guard := none }) (v := undef) rfl (by kernel_rfl) (by kernel_rfl) (by kernel_rfl) (fun _ _ _ h => h) (Or.inr ⟨by rfl, rfl⟩) (by assumption) ?_
          (try simp only [Act.put, List.setIfInBounds_toArray, List.set_cons_zero, List.set_cons_succ])
          first | (refine wpAnyH_take (i := 4) (oi := { dst := some 42, op := Op.move (Operand.tmp 41), type := 4, pos := "law.go:59", after := #[{ on := 3, ground := Ground.data }, { on := 1, ground := Ground.chain }], guard := none }) (v := ?_) rfl (by kernel_rfl) (by kernel_rfl) (by kernel_rfl) (fun _ _ _ h => h) (Or.inl ⟨by rfl, ?_⟩) (by assumption) ?_; rotate_left; focus ((intro W' hSw; (try dsimp only at hSw); go_simp); try with_reducible rfl)) | refine wpAnyH_take (i := 4) (oi := { dst := some 42, op := Op.move (Operand.tmp 41), type := 4, pos := "law.go:59", after := #[{ on := 3, ground := Ground.data }, { on := 1, ground := Ground.chain }], guard := none }) (v := undef) rfl (by kernel_rfl) (by kernel_rfl) (by kernel_rfl) (fun _ _ _ h => h) (Or.inr ⟨by rfl, rfl⟩) (by assumption) ?_
          (try simp only [Act.put, List.setIfInBounds_toArray, List.set_cons_zero, List.set_cons_succ])
          first | (refine wpAnyH_take (i := 5) (oi := { dst := some 43, op := Op.fieldAddr 24 (Operand.tmp 2) 0, type := 0, pos := "law.go:59", after := #[{ on := 4, ground := Ground.guard }], guard := some (4, false) }) (v := ?_) rfl (by kernel_rfl) (by kernel_rfl) (by kernel_rfl) (fun _ _ _ h => h) (Or.inl ⟨by rfl, ?_⟩) (by assumption) ?_; rotate_left; focus ((intro W' hSw; (try dsimp only at hSw); go_simp); try with_reducible rfl)) | refine wpAnyH_take (i := 5) (oi := { dst := some 43, op := Op.fieldAddr 24 (Operand.tmp 2) 0, type := 0, pos := "law.go:59", after := #[{ on := 4, ground := Ground.guard }], guard := some (4, false) }) (v := undef) rfl (by kernel_rfl) (by kernel_rfl) (by kernel_rfl) (fun _ _ _ h => h) (Or.inr ⟨by rfl, rfl⟩) (by assumption) ?_
          (try simp only [Act.put, List.setIfInBounds_toArray, List.set_cons_zero, List.set_cons_succ])
          first | (refine wpAnyH_take (i := 6) (oi := { dst := some 44, op := Op.load 3 (Operand.tmp 43), type := 3, pos := "law.go:59", after := #[{ on := 5, ground := Ground.data }, { on := 4, ground := Ground.guard }], guard := some (4, false) }) (v := ?_) rfl (by kernel_rfl) (by kernel_rfl) (by kernel_rfl) (fun _ _ _ h => h) (Or.inl ⟨by rfl, ?_⟩) (by assumption) ?_; rotate_left; focus ((intro W' hSw; (try dsimp only at hSw); go_simp); try with_reducible rfl)) | refine wpAnyH_take (i := 6) (oi := { dst := some 44, op := Op.load 3 (Operand.tmp 43), type := 3, pos := "law.go:59", after := #[{ on := 5, ground := Ground.data }, { on := 4, ground := Ground.guard }], guard := some (4, false) }) (v := undef) rfl (by kernel_rfl) (by kernel_rfl) (by kernel_rfl) (fun _ _ _ h => h) (Or.inr ⟨by rfl, rfl⟩) (by assumption) ?_
          (try simp only [Act.put, List.setIfInBounds_toArray, List.set_cons_zero, List.set_cons_succ])
          first | (refine wpAnyH_take (i := 8) (oi := { dst := some 46, op := Op.fieldAddr 24 (Operand.tmp 2) 0, type := 0, pos := "law.go:59", after := #[{ on := 4, ground := Ground.guard }], guard := some (4, false) }) (v := ?_) rfl (by kernel_rfl) (by kernel_rfl) (by kernel_rfl) (fun _ _ _ h => h) (Or.inl ⟨by rfl, ?_⟩) (by assumption) ?_; rotate_left; focus ((intro W' hSw; (try dsimp only at hSw); go_simp); try with_reducible rfl)) | refine wpAnyH_take (i := 8) (oi := { dst := some 46, op := Op.fieldAddr 24 (Operand.tmp 2) 0, type := 0, pos := "law.go:59", after := #[{ on := 4, ground := Ground.guard }], guard := some (4, false) }) (v := undef) rfl (by kernel_rfl) (by kernel_rfl) (by kernel_rfl) (fun _ _ _ h => h) (Or.inr ⟨by rfl, rfl⟩) (by assumption) ?_
          (try simp only [Act.put, List.setIfInBounds_toArray, List.set_cons_zero, List.set_cons_succ])
          first | (refine wpAnyH_take (i := 9) (oi := { dst := some 47, op := Op.load 3 (Operand.tmp 46), type := 3, pos := "law.go:59", after := #[{ on := 8, ground := Ground.data }, { on := 4, ground := Ground.guard }], guard := some (4, false) }) (v := ?_) rfl (by kernel_rfl) (by kernel_rfl) (by kernel_rfl) (fun _ _ _ h => h) (Or.inl ⟨by rfl, ?_⟩) (by assumption) ?_; rotate_left; focus ((intro W' hSw; (try dsimp only at hSw); go_simp); try with_reducible rfl)) | refine wpAnyH_take (i := 9) (oi := { dst := some 47, op := Op.load 3 (Operand.tmp 46), type := 3, pos := "law.go:59", after := #[{ on := 8, ground := Ground.data }, { on := 4, ground := Ground.guard }], guard := some (4, false) }) (v := undef) rfl (by kernel_rfl) (by kernel_rfl) (by kernel_rfl) (fun _ _ _ h => h) (Or.inr ⟨by rfl, rfl⟩) (by assumption) ?_
          (try simp only [Act.put, List.setIfInBounds_toArray, List.set_cons_zero, List.set_cons_succ])
          refine wpAnyH_ready (rs := [7]) (by kernel_rfl) (by simp) ?_
          refine AllReadyH.cons (o := { dst := some 45, op := Op.call { callee := Callee.value (Operand.func 12), args := #[Operand.tmp 44], argTypes := #[3] }, type := 9, pos := "law.go:59", after := #[{ on := 6, ground := Ground.data }, { on := 4, ground := Ground.chain }, { on := 4, ground := Ground.guard }], guard := some (4, false) }) rfl (fun K hK => ?_) AllReadyH.nil
          go_simp
          (with_reducible refine (name_J nb HNB.out hj8).mono ?_)
          rintro e W9 ⟨rfl, hj9⟩
          go_wp2_with fail
          refine hK.out _ _ (JX.all hj9) (fun hHeld9 => ?_)
          clear hK K
          (try simp only [Act.put, List.setIfInBounds_toArray, List.set_cons_zero, List.set_cons_succ])
          refine wpAnyH_ready (rs := [10]) (by kernel_rfl) (by simp) ?_
          refine AllReadyH.cons (o := { dst := some 48, op := Op.call { callee := Callee.value (Operand.func 13), args := #[Operand.tmp 47], argTypes := #[3] }, type := 9, pos := "law.go:59", after := #[{ on := 9, ground := Ground.data }, { on := 7, ground := Ground.chain }, { on := 4, ground := Ground.guard }], guard := some (4, false) }) rfl (fun K hK => ?_) AllReadyH.nil
          go_simp
          (with_reducible refine (refname_J nb HNB.out hj9).mono ?_)
          rintro e W10 ⟨rfl, hj10⟩
          go_wp2_with fail
          refine hK.out _ _ (JX.all hj10) (fun hHeld10 => ?_)
          clear hK K
          (try simp only [Act.put, List.setIfInBounds_toArray, List.set_cons_zero, List.set_cons_succ])
          first | (refine wpAnyH_take (i := 11) (oi := { dst := some 49, op := Op.binOp BinOp.neq 9 (Operand.tmp 45) (Operand.tmp 48) 9, type := 4, pos := "law.go:59", after := #[{ on := 7, ground := Ground.data }, { on := 10, ground := Ground.data }, { on := 4, ground := Ground.guard }], guard := some (4, false) }) (v := ?_) rfl (by kernel_rfl) (by kernel_rfl) (by kernel_rfl) (fun _ _ _ h => h) (Or.inl ⟨by rfl, ?_⟩) (by assumption) ?_; rotate_left; focus ((intro W' hSw; (try dsimp only at hSw); go_simp); try with_reducible rfl)) | refine wpAnyH_take (i := 11) (oi := { dst := some 49, op := Op.binOp BinOp.neq 9 (Operand.tmp 45) (Operand.tmp 48) 9, type := 4, pos := "law.go:59", after := #[{ on := 7, ground := Ground.data }, { on := 10, ground := Ground.data }, { on := 4, ground := Ground.guard }], guard := some (4, false) }) (v := undef) rfl (by kernel_rfl) (by kernel_rfl) (by kernel_rfl) (fun _ _ _ h => h) (Or.inr ⟨by rfl, rfl⟩) (by assumption) ?_
          (try simp only [Act.put, List.setIfInBounds_toArray, List.set_cons_zero, List.set_cons_succ])
          first | (refine wpAnyH_take (i := 12) (oi := { dst := some 50, op := Op.pick (Operand.tmp 42) (Operand.const (Value.bool true)) (Operand.tmp 49), type := 4, pos := "law.go:59", after := #[{ on := 4, ground := Ground.data }, { on := 11, ground := Ground.data }], guard := none }) (v := ?_) rfl (by kernel_rfl) (by kernel_rfl) (by kernel_rfl) (fun _ _ _ h => h) (Or.inl ⟨by rfl, ?_⟩) (by assumption) ?_; rotate_left; focus ((intro W' hSw; (try dsimp only at hSw); go_simp); try with_reducible rfl)) | refine wpAnyH_take (i := 12) (oi := { dst := some 50, op := Op.pick (Operand.tmp 42) (Operand.const (Value.bool true)) (Operand.tmp 49), type := 4, pos := "law.go:59", after := #[{ on := 4, ground := Ground.data }, { on := 11, ground := Ground.data }], guard := none }) (v := undef) rfl (by kernel_rfl) (by kernel_rfl) (by kernel_rfl) (fun _ _ _ h => h) (Or.inr ⟨by rfl, rfl⟩) (by assumption) ?_
          (try simp only [Act.put, List.setIfInBounds_toArray, List.set_cons_zero, List.set_cons_succ])
          first | (refine wpAnyH_take (i := 13) (oi := { dst := some 51, op := Op.move (Operand.tmp 50), type := 4, pos := "law.go:59", after := #[{ on := 12, ground := Ground.data }, { on := 10, ground := Ground.chain }], guard := none }) (v := ?_) rfl (by kernel_rfl) (by kernel_rfl) (by kernel_rfl) (fun _ _ _ h => h) (Or.inl ⟨by rfl, ?_⟩) (by assumption) ?_; rotate_left; focus ((intro W' hSw; (try dsimp only at hSw); go_simp); try with_reducible rfl)) | refine wpAnyH_take (i := 13) (oi := { dst := some 51, op := Op.move (Operand.tmp 50), type := 4, pos := "law.go:59", after := #[{ on := 12, ground := Ground.data }, { on := 10, ground := Ground.chain }], guard := none }) (v := undef) rfl (by kernel_rfl) (by kernel_rfl) (by kernel_rfl) (fun _ _ _ h => h) (Or.inr ⟨by rfl, rfl⟩) (by assumption) ?_
          (try simp only [Act.put, List.setIfInBounds_toArray, List.set_cons_zero, List.set_cons_succ])
          first | (refine wpAnyH_take (i := 14) (oi := { dst := some 52, op := Op.load 24 (Operand.tmp 9), type := 24, pos := "law.go:59", after := #[{ on := 13, ground := Ground.guard }], guard := some (13, false) }) (v := ?_) rfl (by kernel_rfl) (by kernel_rfl) (by kernel_rfl) (fun _ _ _ h => h) (Or.inl ⟨by rfl, ?_⟩) (by assumption) ?_; rotate_left; focus ((intro W' hSw; (try dsimp only at hSw); go_simp); try with_reducible rfl)) | refine wpAnyH_take (i := 14) (oi := { dst := some 52, op := Op.load 24 (Operand.tmp 9), type := 24, pos := "law.go:59", after := #[{ on := 13, ground := Ground.guard }], guard := some (13, false) }) (v := undef) rfl (by kernel_rfl) (by kernel_rfl) (by kernel_rfl) (fun _ _ _ h => h) (Or.inr ⟨by rfl, rfl⟩) (by assumption) ?_
          (try simp only [Act.put, List.setIfInBounds_toArray, List.set_cons_zero, List.set_cons_succ])
          first | (refine wpAnyH_take (i := 15) (oi := { dst := some 53, op := Op.load 27 (Operand.tmp 5), type := 27, pos := "law.go:59", after := #[{ on := 13, ground := Ground.guard }], guard := some (13, false) }) (v := ?_) rfl (by kernel_rfl) (by kernel_rfl) (by kernel_rfl) (fun _ _ _ h => h) (Or.inl ⟨by rfl, ?_⟩) (by assumption) ?_; rotate_left; focus ((intro W' hSw; (try dsimp only at hSw); go_simp); try with_reducible rfl)) | refine wpAnyH_take (i := 15) (oi := { dst := some 53, op := Op.load 27 (Operand.tmp 5), type := 27, pos := "law.go:59", after := #[{ on := 13, ground := Ground.guard }], guard := some (13, false) }) (v := undef) rfl (by kernel_rfl) (by kernel_rfl) (by kernel_rfl) (fun _ _ _ h => h) (Or.inr ⟨by rfl, rfl⟩) (by assumption) ?_
          (try simp only [Act.put, List.setIfInBounds_toArray, List.set_cons_zero, List.set_cons_succ])
          refine wpAnyH_ready (rs := [16]) (by kernel_rfl) (by simp) ?_
          refine AllReadyH.cons (o := { dst := some 54, op := Op.call { callee := Callee.value (Operand.func 14), args := #[Operand.tmp 52, Operand.tmp 53], argTypes := #[24, 27] }, type := 4, pos := "law.go:59", after := #[{ on := 14, ground := Ground.data }, { on := 15, ground := Ground.data }, { on := 13, ground := Ground.chain }, { on := 13, ground := Ground.guard }], guard := some (13, false) }) rfl (fun K hK => ?_) AllReadyH.nil
          go_simp
          (with_reducible refine (alike_J HIN.out hj10).mono ?_)
          rintro e W11 ⟨rfl, hj11⟩
          go_wp2_with fail
          refine hK.out _ _ (JX.all hj11) (fun hHeld11 => ?_)
          clear hK K
          (try simp only [Act.put, List.setIfInBounds_toArray, List.set_cons_zero, List.set_cons_succ])
          first | (refine wpAnyH_take (i := 17) (oi := { dst := some 55, op := Op.unOp UnOp.not 4 (Operand.tmp 54), type := 4, pos := "law.go:59", after := #[{ on := 16, ground := Ground.data }, { on := 13, ground := Ground.guard }], guard := some (13, false) }) (v := ?_) rfl (by kernel_rfl) (by kernel_rfl) (by kernel_rfl) (fun _ _ _ h => h) (Or.inl ⟨by rfl, ?_⟩) (by assumption) ?_; rotate_left; focus ((intro W' hSw; (try dsimp only at hSw); go_simp); try with_reducible rfl)) | refine wpAnyH_take (i := 17) (oi := { dst := some 55, op := Op.unOp UnOp.not 4 (Operand.tmp 54), type := 4, pos := "law.go:59", after := #[{ on := 16, ground := Ground.data }, { on := 13, ground := Ground.guard }], guard := some (13, false) }) (v := undef) rfl (by kernel_rfl) (by kernel_rfl) (by kernel_rfl) (fun _ _ _ h => h) (Or.inr ⟨by rfl, rfl⟩) (by assumption) ?_
          (try simp only [Act.put, List.setIfInBounds_toArray, List.set_cons_zero, List.set_cons_succ])
          first | (refine wpAnyH_take (i := 18) (oi := { dst := some 56, op := Op.pick (Operand.tmp 51) (Operand.const (Value.bool true)) (Operand.tmp 55), type := 4, pos := "law.go:59", after := #[{ on := 13, ground := Ground.data }, { on := 17, ground := Ground.data }], guard := none }) (v := ?_) rfl (by kernel_rfl) (by kernel_rfl) (by kernel_rfl) (fun _ _ _ h => h) (Or.inl ⟨by rfl, ?_⟩) (by assumption) ?_; rotate_left; focus ((intro W' hSw; (try dsimp only at hSw); go_simp); try with_reducible rfl)) | refine wpAnyH_take (i := 18) (oi := { dst := some 56, op := Op.pick (Operand.tmp 51) (Operand.const (Value.bool true)) (Operand.tmp 55), type := 4, pos := "law.go:59", after := #[{ on := 13, ground := Ground.data }, { on := 17, ground := Ground.data }], guard := none }) (v := undef) rfl (by kernel_rfl) (by kernel_rfl) (by kernel_rfl) (fun _ _ _ h => h) (Or.inr ⟨by rfl, rfl⟩) (by assumption) ?_
          (try simp only [Act.put, List.setIfInBounds_toArray, List.set_cons_zero, List.set_cons_succ])
          first | (refine wpAnyH_take (i := 19) (oi := { dst := some 57, op := Op.move (Operand.tmp 56), type := 4, pos := "law.go:59", after := #[{ on := 18, ground := Ground.data }, { on := 16, ground := Ground.chain }], guard := none }) (v := ?_) rfl (by kernel_rfl) (by kernel_rfl) (by kernel_rfl) (fun _ _ _ h => h) (Or.inl ⟨by rfl, ?_⟩) (by assumption) ?_; rotate_left; focus ((intro W' hSw; (try dsimp only at hSw); go_simp); try with_reducible rfl)) | refine wpAnyH_take (i := 19) (oi := { dst := some 57, op := Op.move (Operand.tmp 56), type := 4, pos := "law.go:59", after := #[{ on := 18, ground := Ground.data }, { on := 16, ground := Ground.chain }], guard := none }) (v := undef) rfl (by kernel_rfl) (by kernel_rfl) (by kernel_rfl) (fun _ _ _ h => h) (Or.inr ⟨by rfl, rfl⟩) (by assumption) ?_
          (try simp only [Act.put, List.setIfInBounds_toArray, List.set_cons_zero, List.set_cons_succ])
          first | (refine wpAnyH_take (i := 20) (oi := { dst := some 58, op := Op.load 24 (Operand.tmp 9), type := 24, pos := "law.go:59", after := #[{ on := 19, ground := Ground.guard }], guard := some (19, false) }) (v := ?_) rfl (by kernel_rfl) (by kernel_rfl) (by kernel_rfl) (fun _ _ _ h => h) (Or.inl ⟨by rfl, ?_⟩) (by assumption) ?_; rotate_left; focus ((intro W' hSw; (try dsimp only at hSw); go_simp); try with_reducible rfl)) | refine wpAnyH_take (i := 20) (oi := { dst := some 58, op := Op.load 24 (Operand.tmp 9), type := 24, pos := "law.go:59", after := #[{ on := 19, ground := Ground.guard }], guard := some (19, false) }) (v := undef) rfl (by kernel_rfl) (by kernel_rfl) (by kernel_rfl) (fun _ _ _ h => h) (Or.inr ⟨by rfl, rfl⟩) (by assumption) ?_
          (try simp only [Act.put, List.setIfInBounds_toArray, List.set_cons_zero, List.set_cons_succ])
          first | (refine wpAnyH_take (i := 21) (oi := { dst := some 59, op := Op.load 24 (Operand.tmp 2), type := 24, pos := "law.go:59", after := #[{ on := 19, ground := Ground.guard }], guard := some (19, false) }) (v := ?_) rfl (by kernel_rfl) (by kernel_rfl) (by kernel_rfl) (fun _ _ _ h => h) (Or.inl ⟨by rfl, ?_⟩) (by assumption) ?_; rotate_left; focus ((intro W' hSw; (try dsimp only at hSw); go_simp); try with_reducible rfl)) | refine wpAnyH_take (i := 21) (oi := { dst := some 59, op := Op.load 24 (Operand.tmp 2), type := 24, pos := "law.go:59", after := #[{ on := 19, ground := Ground.guard }], guard := some (19, false) }) (v := undef) rfl (by kernel_rfl) (by kernel_rfl) (by kernel_rfl) (fun _ _ _ h => h) (Or.inr ⟨by rfl, rfl⟩) (by assumption) ?_
          (try simp only [Act.put, List.setIfInBounds_toArray, List.set_cons_zero, List.set_cons_succ])
          refine wpAnyH_ready (rs := [22]) (by kernel_rfl) (by simp) ?_
          refine AllReadyH.cons (o := { dst := some 60, op := Op.call { callee := Callee.value (Operand.func 15), args := #[Operand.tmp 58, Operand.tmp 59], argTypes := #[24, 24] }, type := 4, pos := "law.go:59", after := #[{ on := 20, ground := Ground.data }, { on := 21, ground := Ground.data }, { on := 19, ground := Ground.chain }, { on := 19, ground := Ground.guard }], guard := some (19, false) }) rfl (fun K hK => ?_) AllReadyH.nil
          go_simp
          (with_reducible refine (same_J HIN.out hj11).mono ?_)
          rintro e W12 ⟨rfl, hj12⟩
          go_wp2_with fail
          refine hK.out _ _ (JX.all hj12) (fun hHeld12 => ?_)
          clear hK K
          (try simp only [Act.put, List.setIfInBounds_toArray, List.set_cons_zero, List.set_cons_succ])
          first | (refine wpAnyH_take (i := 23) (oi := { dst := some 61, op := Op.unOp UnOp.not 4 (Operand.tmp 60), type := 4, pos := "law.go:59", after := #[{ on := 22, ground := Ground.data }, { on := 19, ground := Ground.guard }], guard := some (19, false) }) (v := ?_) rfl (by kernel_rfl) (by kernel_rfl) (by kernel_rfl) (fun _ _ _ h => h) (Or.inl ⟨by rfl, ?_⟩) (by assumption) ?_; rotate_left; focus ((intro W' hSw; (try dsimp only at hSw); go_simp); try with_reducible rfl)) | refine wpAnyH_take (i := 23) (oi := { dst := some 61, op := Op.unOp UnOp.not 4 (Operand.tmp 60), type := 4, pos := "law.go:59", after := #[{ on := 22, ground := Ground.data }, { on := 19, ground := Ground.guard }], guard := some (19, false) }) (v := undef) rfl (by kernel_rfl) (by kernel_rfl) (by kernel_rfl) (fun _ _ _ h => h) (Or.inr ⟨by rfl, rfl⟩) (by assumption) ?_
          (try simp only [Act.put, List.setIfInBounds_toArray, List.set_cons_zero, List.set_cons_succ])
          first | (refine wpAnyH_take (i := 24) (oi := { dst := some 62, op := Op.pick (Operand.tmp 57) (Operand.const (Value.bool true)) (Operand.tmp 61), type := 4, pos := "law.go:59", after := #[{ on := 19, ground := Ground.data }, { on := 23, ground := Ground.data }], guard := none }) (v := ?_) rfl (by kernel_rfl) (by kernel_rfl) (by kernel_rfl) (fun _ _ _ h => h) (Or.inl ⟨by rfl, ?_⟩) (by assumption) ?_; rotate_left; focus ((intro W' hSw; (try dsimp only at hSw); go_simp); try with_reducible rfl)) | refine wpAnyH_take (i := 24) (oi := { dst := some 62, op := Op.pick (Operand.tmp 57) (Operand.const (Value.bool true)) (Operand.tmp 61), type := 4, pos := "law.go:59", after := #[{ on := 19, ground := Ground.data }, { on := 23, ground := Ground.data }], guard := none }) (v := undef) rfl (by kernel_rfl) (by kernel_rfl) (by kernel_rfl) (fun _ _ _ h => h) (Or.inr ⟨by rfl, rfl⟩) (by assumption) ?_
          (try simp only [Act.put, List.setIfInBounds_toArray, List.set_cons_zero, List.set_cons_succ])
          first | (refine wpAnyH_take (i := 25) (oi := { dst := some 63, op := Op.move (Operand.tmp 62), type := 4, pos := "law.go:59", after := #[{ on := 24, ground := Ground.data }, { on := 22, ground := Ground.chain }], guard := none }) (v := ?_) rfl (by kernel_rfl) (by kernel_rfl) (by kernel_rfl) (fun _ _ _ h => h) (Or.inl ⟨by rfl, ?_⟩) (by assumption) ?_; rotate_left; focus ((intro W' hSw; (try dsimp only at hSw); go_simp); try with_reducible rfl)) | refine wpAnyH_take (i := 25) (oi := { dst := some 63, op := Op.move (Operand.tmp 62), type := 4, pos := "law.go:59", after := #[{ on := 24, ground := Ground.data }, { on := 22, ground := Ground.chain }], guard := none }) (v := undef) rfl (by kernel_rfl) (by kernel_rfl) (by kernel_rfl) (fun _ _ _ h => h) (Or.inr ⟨by rfl, rfl⟩) (by assumption) ?_
          (try simp only [Act.put, List.setIfInBounds_toArray, List.set_cons_zero, List.set_cons_succ])
          first | (refine wpAnyH_take (i := 26) (oi := { dst := some 64, op := Op.move (Operand.tmp 6), type := 4, pos := "law.go:59", after := #[{ on := 25, ground := Ground.guard }], guard := some (25, false) }) (v := ?_) rfl (by kernel_rfl) (by kernel_rfl) (by kernel_rfl) (fun _ _ _ h => h) (Or.inl ⟨by rfl, ?_⟩) (by assumption) ?_; rotate_left; focus ((intro W' hSw; (try dsimp only at hSw); go_simp); try with_reducible rfl)) | refine wpAnyH_take (i := 26) (oi := { dst := some 64, op := Op.move (Operand.tmp 6), type := 4, pos := "law.go:59", after := #[{ on := 25, ground := Ground.guard }], guard := some (25, false) }) (v := undef) rfl (by kernel_rfl) (by kernel_rfl) (by kernel_rfl) (fun _ _ _ h => h) (Or.inr ⟨by rfl, rfl⟩) (by assumption) ?_
          (try simp only [Act.put, List.setIfInBounds_toArray, List.set_cons_zero, List.set_cons_succ])
          first | (refine wpAnyH_take (i := 27) (oi := { dst := some 65, op := Op.move (Operand.tmp 64), type := 4, pos := "law.go:59", after := #[{ on := 26, ground := Ground.data }, { on := 25, ground := Ground.chain }, { on := 25, ground := Ground.guard }], guard := some (25, false) }) (v := ?_) rfl (by kernel_rfl) (by kernel_rfl) (by kernel_rfl) (fun _ _ _ h => h) (Or.inl ⟨by rfl, ?_⟩) (by assumption) ?_; rotate_left; focus ((intro W' hSw; (try dsimp only at hSw); go_simp); try with_reducible rfl)) | refine wpAnyH_take (i := 27) (oi := { dst := some 65, op := Op.move (Operand.tmp 64), type := 4, pos := "law.go:59", after := #[{ on := 26, ground := Ground.data }, { on := 25, ground := Ground.chain }, { on := 25, ground := Ground.guard }], guard := some (25, false) }) (v := undef) rfl (by kernel_rfl) (by kernel_rfl) (by kernel_rfl) (fun _ _ _ h => h) (Or.inr ⟨by rfl, rfl⟩) (by assumption) ?_
          (try simp only [Act.put, List.setIfInBounds_toArray, List.set_cons_zero, List.set_cons_succ])
          first | (refine wpAnyH_take (i := 28) (oi := { dst := some 66, op := Op.move (Operand.tmp 8), type := 30, pos := "law.go:59", after := #[{ on := 27, ground := Ground.guard }], guard := some (27, true) }) (v := ?_) rfl (by kernel_rfl) (by kernel_rfl) (by kernel_rfl) (fun _ _ _ h => h) (Or.inl ⟨by rfl, ?_⟩) (by assumption) ?_; rotate_left; focus ((intro W' hSw; (try dsimp only at hSw); go_simp); try with_reducible rfl)) | refine wpAnyH_take (i := 28) (oi := { dst := some 66, op := Op.move (Operand.tmp 8), type := 30, pos := "law.go:59", after := #[{ on := 27, ground := Ground.guard }], guard := some (27, true) }) (v := undef) rfl (by kernel_rfl) (by kernel_rfl) (by kernel_rfl) (fun _ _ _ h => h) (Or.inr ⟨by rfl, rfl⟩) (by assumption) ?_
          (try simp only [Act.put, List.setIfInBounds_toArray, List.set_cons_zero, List.set_cons_succ])
          first | (refine wpAnyH_take (i := 29) (oi := { dst := some 67, op := Op.binOp BinOp.neq 30 (Operand.tmp 66) (Operand.const (Value.int IntKind.i64 0)) 30, type := 4, pos := "law.go:59", after := #[{ on := 28, ground := Ground.data }, { on := 27, ground := Ground.guard }], guard := some (27, true) }) (v := ?_) rfl (by kernel_rfl) (by kernel_rfl) (by kernel_rfl) (fun _ _ _ h => h) (Or.inl ⟨by rfl, ?_⟩) (by assumption) ?_; rotate_left; focus ((intro W' hSw; (try dsimp only at hSw); go_simp); try with_reducible rfl)) | refine wpAnyH_take (i := 29) (oi := { dst := some 67, op := Op.binOp BinOp.neq 30 (Operand.tmp 66) (Operand.const (Value.int IntKind.i64 0)) 30, type := 4, pos := "law.go:59", after := #[{ on := 28, ground := Ground.data }, { on := 27, ground := Ground.guard }], guard := some (27, true) }) (v := undef) rfl (by kernel_rfl) (by kernel_rfl) (by kernel_rfl) (fun _ _ _ h => h) (Or.inr ⟨by rfl, rfl⟩) (by assumption) ?_
          (try simp only [Act.put, List.setIfInBounds_toArray, List.set_cons_zero, List.set_cons_succ])
          first | (refine wpAnyH_take (i := 30) (oi := { dst := some 68, op := Op.move (Operand.tmp 67), type := 4, pos := "law.go:59", after := #[{ on := 29, ground := Ground.data }, { on := 27, ground := Ground.chain }, { on := 27, ground := Ground.guard }], guard := some (27, true) }) (v := ?_) rfl (by kernel_rfl) (by kernel_rfl) (by kernel_rfl) (fun _ _ _ h => h) (Or.inl ⟨by rfl, ?_⟩) (by assumption) ?_; rotate_left; focus ((intro W' hSw; (try dsimp only at hSw); go_simp); try with_reducible rfl)) | refine wpAnyH_take (i := 30) (oi := { dst := some 68, op := Op.move (Operand.tmp 67), type := 4, pos := "law.go:59", after := #[{ on := 29, ground := Ground.data }, { on := 27, ground := Ground.chain }, { on := 27, ground := Ground.guard }], guard := some (27, true) }) (v := undef) rfl (by kernel_rfl) (by kernel_rfl) (by kernel_rfl) (fun _ _ _ h => h) (Or.inr ⟨by rfl, rfl⟩) (by assumption) ?_
          (try simp only [Act.put, List.setIfInBounds_toArray, List.set_cons_zero, List.set_cons_succ])
          first | (refine wpAnyH_take (i := 31) (oi := { dst := some 69, op := Op.move (Operand.tmp 7), type := 9, pos := "law.go:59", after := #[{ on := 30, ground := Ground.guard }], guard := some (30, false) }) (v := ?_) rfl (by kernel_rfl) (by kernel_rfl) (by kernel_rfl) (fun _ _ _ h => h) (Or.inl ⟨by rfl, ?_⟩) (by assumption) ?_; rotate_left; focus ((intro W' hSw; (try dsimp only at hSw); go_simp); try with_reducible rfl)) | refine wpAnyH_take (i := 31) (oi := { dst := some 69, op := Op.move (Operand.tmp 7), type := 9, pos := "law.go:59", after := #[{ on := 30, ground := Ground.guard }], guard := some (30, false) }) (v := undef) rfl (by kernel_rfl) (by kernel_rfl) (by kernel_rfl) (fun _ _ _ h => h) (Or.inr ⟨by rfl, rfl⟩) (by assumption) ?_
          (try simp only [Act.put, List.setIfInBounds_toArray, List.set_cons_zero, List.set_cons_succ])
          first | (refine wpAnyH_take (i := 32) (oi := { dst := some 70, op := Op.load 27 (Operand.tmp 5), type := 27, pos := "law.go:59", after := #[{ on := 30, ground := Ground.guard }], guard := some (30, false) }) (v := ?_) rfl (by kernel_rfl) (by kernel_rfl) (by kernel_rfl) (fun _ _ _ h => h) (Or.inl ⟨by rfl, ?_⟩) (by assumption) ?_; rotate_left; focus ((intro W' hSw; (try dsimp only at hSw); go_simp); try with_reducible rfl)) | refine wpAnyH_take (i := 32) (oi := { dst := some 70, op := Op.load 27 (Operand.tmp 5), type := 27, pos := "law.go:59", after := #[{ on := 30, ground := Ground.guard }], guard := some (30, false) }) (v := undef) rfl (by kernel_rfl) (by kernel_rfl) (by kernel_rfl) (fun _ _ _ h => h) (Or.inr ⟨by rfl, rfl⟩) (by assumption) ?_
          (try simp only [Act.put, List.setIfInBounds_toArray, List.set_cons_zero, List.set_cons_succ])
          refine wpAnyH_ready (rs := [33]) (by kernel_rfl) (by simp) ?_
          refine AllReadyH.cons (o := { dst := some 71, op := Op.call { callee := Callee.value (Operand.func 16), args := #[Operand.tmp 70], argTypes := #[27] }, type := 9, pos := "law.go:59", after := #[{ on := 32, ground := Ground.data }, { on := 30, ground := Ground.chain }, { on := 30, ground := Ground.guard }], guard := some (30, false) }) rfl (fun K hK => ?_) AllReadyH.nil
          go_simp
          (with_reducible refine (refbytes_J HIN.out HGP.out hj12).mono ?_)
          rintro e W13 ⟨rfl, hj13⟩
          go_wp2_with fail
          refine hK.out _ _ (JX.all hj13) (fun hHeld13 => ?_)
          clear hK K
          (try simp only [Act.put, List.setIfInBounds_toArray, List.set_cons_zero, List.set_cons_succ])
          first | (refine wpAnyH_take (i := 34) (oi := { dst := some 72, op := Op.binOp BinOp.neq 9 (Operand.tmp 69) (Operand.tmp 71) 9, type := 4, pos := "law.go:59", after := #[{ on := 31, ground := Ground.data }, { on := 33, ground := Ground.data }, { on := 30, ground := Ground.guard }], guard := some (30, false) }) (v := ?_) rfl (by kernel_rfl) (by kernel_rfl) (by kernel_rfl) (fun _ _ _ h => h) (Or.inl ⟨by rfl, ?_⟩) (by assumption) ?_; rotate_left; focus ((intro W' hSw; (try dsimp only at hSw); go_simp); try with_reducible rfl)) | refine wpAnyH_take (i := 34) (oi := { dst := some 72, op := Op.binOp BinOp.neq 9 (Operand.tmp 69) (Operand.tmp 71) 9, type := 4, pos := "law.go:59", after := #[{ on := 31, ground := Ground.data }, { on := 33, ground := Ground.data }, { on := 30, ground := Ground.guard }], guard := some (30, false) }) (v := undef) rfl (by kernel_rfl) (by kernel_rfl) (by kernel_rfl) (fun _ _ _ h => h) (Or.inr ⟨by rfl, rfl⟩) (by assumption) ?_
          (try simp only [Act.put, List.setIfInBounds_toArray, List.set_cons_zero, List.set_cons_succ])
          first | (refine wpAnyH_take (i := 35) (oi := { dst := some 73, op := Op.pick (Operand.tmp 68) (Operand.const (Value.bool true)) (Operand.tmp 72), type := 4, pos := "law.go:59", after := #[{ on := 30, ground := Ground.data }, { on := 34, ground := Ground.data }, { on := 27, ground := Ground.guard }], guard := some (27, true) }) (v := ?_) rfl (by kernel_rfl) (by kernel_rfl) (by kernel_rfl) (fun _ _ _ h => h) (Or.inl ⟨by rfl, ?_⟩) (by assumption) ?_; rotate_left; focus ((intro W' hSw; (try dsimp only at hSw); go_simp); try with_reducible rfl)) | refine wpAnyH_take (i := 35) (oi := { dst := some 73, op := Op.pick (Operand.tmp 68) (Operand.const (Value.bool true)) (Operand.tmp 72), type := 4, pos := "law.go:59", after := #[{ on := 30, ground := Ground.data }, { on := 34, ground := Ground.data }, { on := 27, ground := Ground.guard }], guard := some (27, true) }) (v := undef) rfl (by kernel_rfl) (by kernel_rfl) (by kernel_rfl) (fun _ _ _ h => h) (Or.inr ⟨by rfl, rfl⟩) (by assumption) ?_
          (try simp only [Act.put, List.setIfInBounds_toArray, List.set_cons_zero, List.set_cons_succ])
          first | (refine wpAnyH_take (i := 36) (oi := { dst := some 74, op := Op.pick (Operand.tmp 65) (Operand.tmp 73) (Operand.const (Value.bool false)), type := 4, pos := "law.go:59", after := #[{ on := 27, ground := Ground.data }, { on := 35, ground := Ground.data }, { on := 25, ground := Ground.guard }], guard := some (25, false) }) (v := ?_) rfl (by kernel_rfl) (by kernel_rfl) (by kernel_rfl) (fun _ _ _ h => h) (Or.inl ⟨by rfl, ?_⟩) (by assumption) ?_; rotate_left; focus ((intro W' hSw; (try dsimp only at hSw); go_simp); try with_reducible rfl)) | refine wpAnyH_take (i := 36) (oi := { dst := some 74, op := Op.pick (Operand.tmp 65) (Operand.tmp 73) (Operand.const (Value.bool false)), type := 4, pos := "law.go:59", after := #[{ on := 27, ground := Ground.data }, { on := 35, ground := Ground.data }, { on := 25, ground := Ground.guard }], guard := some (25, false) }) (v := undef) rfl (by kernel_rfl) (by kernel_rfl) (by kernel_rfl) (fun _ _ _ h => h) (Or.inr ⟨by rfl, rfl⟩) (by assumption) ?_
          (try simp only [Act.put, List.setIfInBounds_toArray, List.set_cons_zero, List.set_cons_succ])
          first | (refine wpAnyH_take (i := 37) (oi := { dst := some 75, op := Op.pick (Operand.tmp 63) (Operand.const (Value.bool true)) (Operand.tmp 74), type := 4, pos := "law.go:59", after := #[{ on := 25, ground := Ground.data }, { on := 36, ground := Ground.data }], guard := none }) (v := ?_) rfl (by kernel_rfl) (by kernel_rfl) (by kernel_rfl) (fun _ _ _ h => h) (Or.inl ⟨by rfl, ?_⟩) (by assumption) ?_; rotate_left; focus ((intro W' hSw; (try dsimp only at hSw); go_simp); try with_reducible rfl)) | refine wpAnyH_take (i := 37) (oi := { dst := some 75, op := Op.pick (Operand.tmp 63) (Operand.const (Value.bool true)) (Operand.tmp 74), type := 4, pos := "law.go:59", after := #[{ on := 25, ground := Ground.data }, { on := 36, ground := Ground.data }], guard := none }) (v := undef) rfl (by kernel_rfl) (by kernel_rfl) (by kernel_rfl) (fun _ _ _ h => h) (Or.inr ⟨by rfl, rfl⟩) (by assumption) ?_
          (try simp only [Act.put, List.setIfInBounds_toArray, List.set_cons_zero, List.set_cons_succ])
          first | (refine wpAnyH_take (i := 38) (oi := { dst := some 76, op := Op.move (Operand.tmp 75), type := 4, pos := "law.go:59", after := #[{ on := 37, ground := Ground.data }, { on := 33, ground := Ground.chain }], guard := none }) (v := ?_) rfl (by kernel_rfl) (by kernel_rfl) (by kernel_rfl) (fun _ _ _ h => h) (Or.inl ⟨by rfl, ?_⟩) (by assumption) ?_; rotate_left; focus ((intro W' hSw; (try dsimp only at hSw); go_simp); try with_reducible rfl)) | refine wpAnyH_take (i := 38) (oi := { dst := some 76, op := Op.move (Operand.tmp 75), type := 4, pos := "law.go:59", after := #[{ on := 37, ground := Ground.data }, { on := 33, ground := Ground.chain }], guard := none }) (v := undef) rfl (by kernel_rfl) (by kernel_rfl) (by kernel_rfl) (fun _ _ _ h => h) (Or.inr ⟨by rfl, rfl⟩) (by assumption) ?_
          (try simp only [Act.put, List.setIfInBounds_toArray, List.set_cons_zero, List.set_cons_succ])
          first | (refine wpAnyH_take (i := 39) (oi := { dst := some 77, op := Op.move (Operand.tmp 6), type := 4, pos := "law.go:59", after := #[{ on := 38, ground := Ground.guard }], guard := some (38, false) }) (v := ?_) rfl (by kernel_rfl) (by kernel_rfl) (by kernel_rfl) (fun _ _ _ h => h) (Or.inl ⟨by rfl, ?_⟩) (by assumption) ?_; rotate_left; focus ((intro W' hSw; (try dsimp only at hSw); go_simp); try with_reducible rfl)) | refine wpAnyH_take (i := 39) (oi := { dst := some 77, op := Op.move (Operand.tmp 6), type := 4, pos := "law.go:59", after := #[{ on := 38, ground := Ground.guard }], guard := some (38, false) }) (v := undef) rfl (by kernel_rfl) (by kernel_rfl) (by kernel_rfl) (fun _ _ _ h => h) (Or.inr ⟨by rfl, rfl⟩) (by assumption) ?_
          (try simp only [Act.put, List.setIfInBounds_toArray, List.set_cons_zero, List.set_cons_succ])
          first | (refine wpAnyH_take (i := 40) (oi := { dst := some 78, op := Op.unOp UnOp.not 4 (Operand.tmp 77), type := 4, pos := "law.go:59", after := #[{ on := 39, ground := Ground.data }, { on := 38, ground := Ground.guard }], guard := some (38, false) }) (v := ?_) rfl (by kernel_rfl) (by kernel_rfl) (by kernel_rfl) (fun _ _ _ h => h) (Or.inl ⟨by rfl, ?_⟩) (by assumption) ?_; rotate_left; focus ((intro W' hSw; (try dsimp only at hSw); go_simp); try with_reducible rfl)) | refine wpAnyH_take (i := 40) (oi := { dst := some 78, op := Op.unOp UnOp.not 4 (Operand.tmp 77), type := 4, pos := "law.go:59", after := #[{ on := 39, ground := Ground.data }, { on := 38, ground := Ground.guard }], guard := some (38, false) }) (v := undef) rfl (by kernel_rfl) (by kernel_rfl) (by kernel_rfl) (fun _ _ _ h => h) (Or.inr ⟨by rfl, rfl⟩) (by assumption) ?_
          (try simp only [Act.put, List.setIfInBounds_toArray, List.set_cons_zero, List.set_cons_succ])
          first | (refine wpAnyH_take (i := 41) (oi := { dst := some 79, op := Op.move (Operand.tmp 78), type := 4, pos := "law.go:59", after := #[{ on := 40, ground := Ground.data }, { on := 38, ground := Ground.chain }, { on := 38, ground := Ground.guard }], guard := some (38, false) }) (v := ?_) rfl (by kernel_rfl) (by kernel_rfl) (by kernel_rfl) (fun _ _ _ h => h) (Or.inl ⟨by rfl, ?_⟩) (by assumption) ?_; rotate_left; focus ((intro W' hSw; (try dsimp only at hSw); go_simp); try with_reducible rfl)) | refine wpAnyH_take (i := 41) (oi := { dst := some 79, op := Op.move (Operand.tmp 78), type := 4, pos := "law.go:59", after := #[{ on := 40, ground := Ground.data }, { on := 38, ground := Ground.chain }, { on := 38, ground := Ground.guard }], guard := some (38, false) }) (v := undef) rfl (by kernel_rfl) (by kernel_rfl) (by kernel_rfl) (fun _ _ _ h => h) (Or.inr ⟨by rfl, rfl⟩) (by assumption) ?_
          (try simp only [Act.put, List.setIfInBounds_toArray, List.set_cons_zero, List.set_cons_succ])
          first | (refine wpAnyH_take (i := 42) (oi := { dst := some 80, op := Op.move (Operand.tmp 8), type := 30, pos := "law.go:59", after := #[{ on := 41, ground := Ground.guard }], guard := some (41, true) }) (v := ?_) rfl (by kernel_rfl) (by kernel_rfl) (by kernel_rfl) (fun _ _ _ h => h) (Or.inl ⟨by rfl, ?_⟩) (by assumption) ?_; rotate_left; focus ((intro W' hSw; (try dsimp only at hSw); go_simp); try with_reducible rfl)) | refine wpAnyH_take (i := 42) (oi := { dst := some 80, op := Op.move (Operand.tmp 8), type := 30, pos := "law.go:59", after := #[{ on := 41, ground := Ground.guard }], guard := some (41, true) }) (v := undef) rfl (by kernel_rfl) (by kernel_rfl) (by kernel_rfl) (fun _ _ _ h => h) (Or.inr ⟨by rfl, rfl⟩) (by assumption) ?_
          (try simp only [Act.put, List.setIfInBounds_toArray, List.set_cons_zero, List.set_cons_succ])
          first | (refine wpAnyH_take (i := 43) (oi := { dst := some 81, op := Op.binOp BinOp.neq 30 (Operand.tmp 80) (Operand.const (Value.int IntKind.i64 1)) 30, type := 4, pos := "law.go:59", after := #[{ on := 42, ground := Ground.data }, { on := 41, ground := Ground.guard }], guard := some (41, true) }) (v := ?_) rfl (by kernel_rfl) (by kernel_rfl) (by kernel_rfl) (fun _ _ _ h => h) (Or.inl ⟨by rfl, ?_⟩) (by assumption) ?_; rotate_left; focus ((intro W' hSw; (try dsimp only at hSw); go_simp); try with_reducible rfl)) | refine wpAnyH_take (i := 43) (oi := { dst := some 81, op := Op.binOp BinOp.neq 30 (Operand.tmp 80) (Operand.const (Value.int IntKind.i64 1)) 30, type := 4, pos := "law.go:59", after := #[{ on := 42, ground := Ground.data }, { on := 41, ground := Ground.guard }], guard := some (41, true) }) (v := undef) rfl (by kernel_rfl) (by kernel_rfl) (by kernel_rfl) (fun _ _ _ h => h) (Or.inr ⟨by rfl, rfl⟩) (by assumption) ?_
          (try simp only [Act.put, List.setIfInBounds_toArray, List.set_cons_zero, List.set_cons_succ])
          first | (refine wpAnyH_take (i := 44) (oi := { dst := some 82, op := Op.move (Operand.tmp 81), type := 4, pos := "law.go:59", after := #[{ on := 43, ground := Ground.data }, { on := 41, ground := Ground.chain }, { on := 41, ground := Ground.guard }], guard := some (41, true) }) (v := ?_) rfl (by kernel_rfl) (by kernel_rfl) (by kernel_rfl) (fun _ _ _ h => h) (Or.inl ⟨by rfl, ?_⟩) (by assumption) ?_; rotate_left; focus ((intro W' hSw; (try dsimp only at hSw); go_simp); try with_reducible rfl)) | refine wpAnyH_take (i := 44) (oi := { dst := some 82, op := Op.move (Operand.tmp 81), type := 4, pos := "law.go:59", after := #[{ on := 43, ground := Ground.data }, { on := 41, ground := Ground.chain }, { on := 41, ground := Ground.guard }], guard := some (41, true) }) (v := undef) rfl (by kernel_rfl) (by kernel_rfl) (by kernel_rfl) (fun _ _ _ h => h) (Or.inr ⟨by rfl, rfl⟩) (by assumption) ?_
          (try simp only [Act.put, List.setIfInBounds_toArray, List.set_cons_zero, List.set_cons_succ])
          first | (refine wpAnyH_take (i := 45) (oi := { dst := some 83, op := Op.move (Operand.tmp 7), type := 9, pos := "law.go:59", after := #[{ on := 44, ground := Ground.guard }], guard := some (44, false) }) (v := ?_) rfl (by kernel_rfl) (by kernel_rfl) (by kernel_rfl) (fun _ _ _ h => h) (Or.inl ⟨by rfl, ?_⟩) (by assumption) ?_; rotate_left; focus ((intro W' hSw; (try dsimp only at hSw); go_simp); try with_reducible rfl)) | refine wpAnyH_take (i := 45) (oi := { dst := some 83, op := Op.move (Operand.tmp 7), type := 9, pos := "law.go:59", after := #[{ on := 44, ground := Ground.guard }], guard := some (44, false) }) (v := undef) rfl (by kernel_rfl) (by kernel_rfl) (by kernel_rfl) (fun _ _ _ h => h) (Or.inr ⟨by rfl, rfl⟩) (by assumption) ?_
          (try simp only [Act.put, List.setIfInBounds_toArray, List.set_cons_zero, List.set_cons_succ])
          first | (refine wpAnyH_take (i := 46) (oi := { dst := some 84, op := Op.binOp BinOp.neq 9 (Operand.tmp 83) (Operand.const (Value.string { data := #[] })) 9, type := 4, pos := "law.go:59", after := #[{ on := 45, ground := Ground.data }, { on := 44, ground := Ground.guard }], guard := some (44, false) }) (v := ?_) rfl (by kernel_rfl) (by kernel_rfl) (by kernel_rfl) (fun _ _ _ h => h) (Or.inl ⟨by rfl, ?_⟩) (by assumption) ?_; rotate_left; focus ((intro W' hSw; (try dsimp only at hSw); go_simp); try with_reducible rfl)) | refine wpAnyH_take (i := 46) (oi := { dst := some 84, op := Op.binOp BinOp.neq 9 (Operand.tmp 83) (Operand.const (Value.string { data := #[] })) 9, type := 4, pos := "law.go:59", after := #[{ on := 45, ground := Ground.data }, { on := 44, ground := Ground.guard }], guard := some (44, false) }) (v := undef) rfl (by kernel_rfl) (by kernel_rfl) (by kernel_rfl) (fun _ _ _ h => h) (Or.inr ⟨by rfl, rfl⟩) (by assumption) ?_
          (try simp only [Act.put, List.setIfInBounds_toArray, List.set_cons_zero, List.set_cons_succ])
          first | (refine wpAnyH_take (i := 47) (oi := { dst := some 85, op := Op.pick (Operand.tmp 82) (Operand.const (Value.bool true)) (Operand.tmp 84), type := 4, pos := "law.go:59", after := #[{ on := 44, ground := Ground.data }, { on := 46, ground := Ground.data }, { on := 41, ground := Ground.guard }], guard := some (41, true) }) (v := ?_) rfl (by kernel_rfl) (by kernel_rfl) (by kernel_rfl) (fun _ _ _ h => h) (Or.inl ⟨by rfl, ?_⟩) (by assumption) ?_; rotate_left; focus ((intro W' hSw; (try dsimp only at hSw); go_simp); try with_reducible rfl)) | refine wpAnyH_take (i := 47) (oi := { dst := some 85, op := Op.pick (Operand.tmp 82) (Operand.const (Value.bool true)) (Operand.tmp 84), type := 4, pos := "law.go:59", after := #[{ on := 44, ground := Ground.data }, { on := 46, ground := Ground.data }, { on := 41, ground := Ground.guard }], guard := some (41, true) }) (v := undef) rfl (by kernel_rfl) (by kernel_rfl) (by kernel_rfl) (fun _ _ _ h => h) (Or.inr ⟨by rfl, rfl⟩) (by assumption) ?_
          (try simp only [Act.put, List.setIfInBounds_toArray, List.set_cons_zero, List.set_cons_succ])
          first | (refine wpAnyH_take (i := 48) (oi := { dst := some 86, op := Op.pick (Operand.tmp 79) (Operand.tmp 85) (Operand.const (Value.bool false)), type := 4, pos := "law.go:59", after := #[{ on := 41, ground := Ground.data }, { on := 47, ground := Ground.data }, { on := 38, ground := Ground.guard }], guard := some (38, false) }) (v := ?_) rfl (by kernel_rfl) (by kernel_rfl) (by kernel_rfl) (fun _ _ _ h => h) (Or.inl ⟨by rfl, ?_⟩) (by assumption) ?_; rotate_left; focus ((intro W' hSw; (try dsimp only at hSw); go_simp); try with_reducible rfl)) | refine wpAnyH_take (i := 48) (oi := { dst := some 86, op := Op.pick (Operand.tmp 79) (Operand.tmp 85) (Operand.const (Value.bool false)), type := 4, pos := "law.go:59", after := #[{ on := 41, ground := Ground.data }, { on := 47, ground := Ground.data }, { on := 38, ground := Ground.guard }], guard := some (38, false) }) (v := undef) rfl (by kernel_rfl) (by kernel_rfl) (by kernel_rfl) (fun _ _ _ h => h) (Or.inr ⟨by rfl, rfl⟩) (by assumption) ?_
          (try simp only [Act.put, List.setIfInBounds_toArray, List.set_cons_zero, List.set_cons_succ])
          first | (refine wpAnyH_take (i := 49) (oi := { dst := some 87, op := Op.pick (Operand.tmp 76) (Operand.const (Value.bool true)) (Operand.tmp 86), type := 4, pos := "law.go:59", after := #[{ on := 38, ground := Ground.data }, { on := 48, ground := Ground.data }], guard := none }) (v := ?_) rfl (by kernel_rfl) (by kernel_rfl) (by kernel_rfl) (fun _ _ _ h => h) (Or.inl ⟨by rfl, ?_⟩) (by assumption) ?_; rotate_left; focus ((intro W' hSw; (try dsimp only at hSw); go_simp); try with_reducible rfl)) | refine wpAnyH_take (i := 49) (oi := { dst := some 87, op := Op.pick (Operand.tmp 76) (Operand.const (Value.bool true)) (Operand.tmp 86), type := 4, pos := "law.go:59", after := #[{ on := 38, ground := Ground.data }, { on := 48, ground := Ground.data }], guard := none }) (v := undef) rfl (by kernel_rfl) (by kernel_rfl) (by kernel_rfl) (fun _ _ _ h => h) (Or.inr ⟨by rfl, rfl⟩) (by assumption) ?_
          (try simp only [Act.put, List.setIfInBounds_toArray, List.set_cons_zero, List.set_cons_succ])
          refine wpAnyH_done (by kernel_rfl) ?_ _
          go_wp2_with fail
          go_meet
          case rel => exact ⟨rfl, hj13.bel, fun b o hm => hj13.keep b o (by simp at hm; simp [hm])⟩
        | false =>
          obtain rfl := hge.2 rfl
          obtain rfl := hgbv.2 rfl
          clear hge hgbv
          refine wp_region_held_drew (S := (fun W' => JX w c (.slice pa c.pr.length pc) (.slice da c.dr.length dc) (.slice pxa c.pr.length pxc) (.slice dxa c.dr.length dxc) W3.heap.size W6.heap.size W' ∧ W'.cell? ⟨w.heap.size, 0, none⟩ = some (.int .i64 c.kind) ∧ W'.cell? ⟨w.heap.size, 1, none⟩ = some (.int .i64 c.id) ∧ W'.cell? ⟨w.heap.size, 2, none⟩ = some (.int .i64 c.n) ∧ W'.cell? ⟨w.heap.size, 3, none⟩ = some (.bool c.good) ∧ W'.cell? ⟨w.heap.size, 4, none⟩ = some (.slice pa c.pr.length pc) ∧ W'.cell? ⟨w.heap.size, 5, none⟩ = some (.slice da c.dr.length dc) ∧ W'.cell? ⟨w.heap.size, 6, none⟩ = some (.string c.data) ∧ W'.cell? ⟨W3.heap.size, 0, none⟩ = some (.int .i64 c.kind) ∧ W'.cell? ⟨W3.heap.size, 1, none⟩ = some (.int .i64 c.id) ∧ W'.cell? ⟨W3.heap.size, 2, none⟩ = some (.int .i64 c.n) ∧ W'.cell? ⟨W3.heap.size, 3, none⟩ = some (.bool c.good) ∧ W'.cell? ⟨W3.heap.size, 4, none⟩ = some (.slice pa c.pr.length pc) ∧ W'.cell? ⟨W3.heap.size, 5, none⟩ = some (.slice da c.dr.length dc) ∧ W'.cell? ⟨W3.heap.size, 6, none⟩ = some (.string c.data) ∧ W'.cell? ⟨W6.heap.size, 0, none⟩ = some (.int .i64 c.kind) ∧ W'.cell? ⟨W6.heap.size, 1, none⟩ = some (.int .i64 c.id) ∧ W'.cell? ⟨W6.heap.size, 2, none⟩ = some (.int .i64 c.n) ∧ W'.cell? ⟨W6.heap.size, 3, none⟩ = some (.bool c.good) ∧ W'.cell? ⟨W6.heap.size, 4, none⟩ = some (.slice pxa c.pr.length pxc) ∧ W'.cell? ⟨W6.heap.size, 5, none⟩ = some (.slice dxa c.dr.length dxc) ∧ W'.cell? ⟨W6.heap.size, 6, none⟩ = some (.string c.data))) (by kernel_rfl) (JX.all hj7) (fun hHeld => ?_)
          first | (refine wpAnyH_take (i := 2) (oi := { dst := some 40, op := Op.move (Operand.tmp 6), type := 4, pos := "law.go:59", after := #[], guard := none }) (v := ?_) rfl (by kernel_rfl) (by kernel_rfl) (by kernel_rfl) (fun _ _ _ h => h) (Or.inl ⟨by rfl, ?_⟩) (by assumption) ?_; rotate_left; focus ((intro W' hSw; (try dsimp only at hSw); go_simp); try with_reducible rfl)) | refine wpAnyH_take (i := 2) (oi := { dst := some 40, op := Op.move (Operand.tmp 6), type := 4, pos := "law.go:59", after := #[], guard := none }) (v := undef) rfl (by kernel_rfl) (by kernel_rfl) (by kernel_rfl) (fun _ _ _ h => h) (Or.inr ⟨by rfl, rfl⟩) (by assumption) ?_
          (try simp only [Act.put, List.setIfInBounds_toArray, List.set_cons_zero, List.set_cons_succ])
          first | (refine wpAnyH_take (i := 0) (oi := { dst := some 38, op := Op.load 24 (Operand.tmp 2), type := 24, pos := "law.go:59", after := #[], guard := none }) (v := ?_) rfl (by kernel_rfl) (by kernel_rfl) (by kernel_rfl) (fun _ _ _ h => h) (Or.inl ⟨by rfl, ?_⟩) (by assumption) ?_; rotate_left; focus ((intro W' hSw; (try dsimp only at hSw); go_simp); try with_reducible rfl)) | refine wpAnyH_take (i := 0) (oi := { dst := some 38, op := Op.load 24 (Operand.tmp 2), type := 24, pos := "law.go:59", after := #[], guard := none }) (v := undef) rfl (by kernel_rfl) (by kernel_rfl) (by kernel_rfl) (fun _ _ _ h => h) (Or.inr ⟨by rfl, rfl⟩) (by assumption) ?_
          (try simp only [Act.put, List.setIfInBounds_toArray, List.set_cons_zero, List.set_cons_succ])
          refine wpAnyH_ready (rs := [1]) (by kernel_rfl) (by simp) ?_
          refine AllReadyH.cons (o := { dst := some 39, op := Op.call { callee := Callee.value (Operand.func 11), args := #[Operand.tmp 38], argTypes := #[24] }, type := 4, pos := "law.go:59", after := #[{ on := 0, ground := Ground.data }], guard := none }) rfl (fun K hK => ?_) AllReadyH.nil
          go_simp
          (with_reducible refine (good_J HIN.out HG.out hj7).mono ?_)
          rintro e W8 ⟨rfl, hj8⟩
          go_wp2_with fail
          refine hK.out _ _ (JX.all hj8) (fun hHeld8 => ?_)
          clear hK K
          (try simp only [Act.put, List.setIfInBounds_toArray, List.set_cons_zero, List.set_cons_succ])
          first | (refine wpAnyH_take (i := 3) (oi := { dst := some 41, op := Op.binOp BinOp.neq 4 (Operand.tmp 39) (Operand.tmp 40) 4, type := 4, pos := "law.go:59", after := #[{ on := 1, ground := Ground.data }, { on := 2, ground := Ground.data }], guard := none }) (v := ?_) rfl (by kernel_rfl) (by kernel_rfl) (by kernel_rfl) (fun _ _ _ h => h) (Or.inl ⟨by rfl, ?_⟩) (by assumption) ?_; rotate_left; focus ((intro W' hSw; (try dsimp only at hSw); go_simp); try with_reducible rfl)) | refine wpAnyH_take (i := 3) (oi := { dst := some 41, op := Op.binOp BinOp.neq 4 (Operand.tmp 39) (Operand.tmp 40) 4, type := 4, pos := "law.go:59", after := #[{ on := 1, ground := Ground.data }, { on := 2, ground := Ground.data }], guard := none }) (v := undef) rfl (by kernel_rfl) (by kernel_rfl) (by kernel_rfl) (fun _ _ _ h => h) (Or.inr ⟨by rfl, rfl⟩) (by assumption) ?_
          (try simp only [Act.put, List.setIfInBounds_toArray, List.set_cons_zero, List.set_cons_succ])
          first | (refine wpAnyH_take (i := 4) (oi := { dst := some 42, op := Op.move (Operand.tmp 41), type := 4, pos := "law.go:59", after := #[{ on := 3, ground := Ground.data }, { on := 1, ground := Ground.chain }], guard := none }) (v := ?_) rfl (by kernel_rfl) (by kernel_rfl) (by kernel_rfl) (fun _ _ _ h => h) (Or.inl ⟨by rfl, ?_⟩) (by assumption) ?_; rotate_left; focus ((intro W' hSw; (try dsimp only at hSw); go_simp); try with_reducible rfl)) | refine wpAnyH_take (i := 4) (oi := { dst := some 42, op := Op.move (Operand.tmp 41), type := 4, pos := "law.go:59", after := #[{ on := 3, ground := Ground.data }, { on := 1, ground := Ground.chain }], guard := none }) (v := undef) rfl (by kernel_rfl) (by kernel_rfl) (by kernel_rfl) (fun _ _ _ h => h) (Or.inr ⟨by rfl, rfl⟩) (by assumption) ?_
          (try simp only [Act.put, List.setIfInBounds_toArray, List.set_cons_zero, List.set_cons_succ])
          first | (refine wpAnyH_take (i := 5) (oi := { dst := some 43, op := Op.fieldAddr 24 (Operand.tmp 2) 0, type := 0, pos := "law.go:59", after := #[{ on := 4, ground := Ground.guard }], guard := some (4, false) }) (v := ?_) rfl (by kernel_rfl) (by kernel_rfl) (by kernel_rfl) (fun _ _ _ h => h) (Or.inl ⟨by rfl, ?_⟩) (by assumption) ?_; rotate_left; focus ((intro W' hSw; (try dsimp only at hSw); go_simp); try with_reducible rfl)) | refine wpAnyH_take (i := 5) (oi := { dst := some 43, op := Op.fieldAddr 24 (Operand.tmp 2) 0, type := 0, pos := "law.go:59", after := #[{ on := 4, ground := Ground.guard }], guard := some (4, false) }) (v := undef) rfl (by kernel_rfl) (by kernel_rfl) (by kernel_rfl) (fun _ _ _ h => h) (Or.inr ⟨by rfl, rfl⟩) (by assumption) ?_
          (try simp only [Act.put, List.setIfInBounds_toArray, List.set_cons_zero, List.set_cons_succ])
          first | (refine wpAnyH_take (i := 6) (oi := { dst := some 44, op := Op.load 3 (Operand.tmp 43), type := 3, pos := "law.go:59", after := #[{ on := 5, ground := Ground.data }, { on := 4, ground := Ground.guard }], guard := some (4, false) }) (v := ?_) rfl (by kernel_rfl) (by kernel_rfl) (by kernel_rfl) (fun _ _ _ h => h) (Or.inl ⟨by rfl, ?_⟩) (by assumption) ?_; rotate_left; focus ((intro W' hSw; (try dsimp only at hSw); go_simp); try with_reducible rfl)) | refine wpAnyH_take (i := 6) (oi := { dst := some 44, op := Op.load 3 (Operand.tmp 43), type := 3, pos := "law.go:59", after := #[{ on := 5, ground := Ground.data }, { on := 4, ground := Ground.guard }], guard := some (4, false) }) (v := undef) rfl (by kernel_rfl) (by kernel_rfl) (by kernel_rfl) (fun _ _ _ h => h) (Or.inr ⟨by rfl, rfl⟩) (by assumption) ?_
          (try simp only [Act.put, List.setIfInBounds_toArray, List.set_cons_zero, List.set_cons_succ])
          first | (refine wpAnyH_take (i := 8) (oi := { dst := some 46, op := Op.fieldAddr 24 (Operand.tmp 2) 0, type := 0, pos := "law.go:59", after := #[{ on := 4, ground := Ground.guard }], guard := some (4, false) }) (v := ?_) rfl (by kernel_rfl) (by kernel_rfl) (by kernel_rfl) (fun _ _ _ h => h) (Or.inl ⟨by rfl, ?_⟩) (by assumption) ?_; rotate_left; focus ((intro W' hSw; (try dsimp only at hSw); go_simp); try with_reducible rfl)) | refine wpAnyH_take (i := 8) (oi := { dst := some 46, op := Op.fieldAddr 24 (Operand.tmp 2) 0, type := 0, pos := "law.go:59", after := #[{ on := 4, ground := Ground.guard }], guard := some (4, false) }) (v := undef) rfl (by kernel_rfl) (by kernel_rfl) (by kernel_rfl) (fun _ _ _ h => h) (Or.inr ⟨by rfl, rfl⟩) (by assumption) ?_
          (try simp only [Act.put, List.setIfInBounds_toArray, List.set_cons_zero, List.set_cons_succ])
          first | (refine wpAnyH_take (i := 9) (oi := { dst := some 47, op := Op.load 3 (Operand.tmp 46), type := 3, pos := "law.go:59", after := #[{ on := 8, ground := Ground.data }, { on := 4, ground := Ground.guard }], guard := some (4, false) }) (v := ?_) rfl (by kernel_rfl) (by kernel_rfl) (by kernel_rfl) (fun _ _ _ h => h) (Or.inl ⟨by rfl, ?_⟩) (by assumption) ?_; rotate_left; focus ((intro W' hSw; (try dsimp only at hSw); go_simp); try with_reducible rfl)) | refine wpAnyH_take (i := 9) (oi := { dst := some 47, op := Op.load 3 (Operand.tmp 46), type := 3, pos := "law.go:59", after := #[{ on := 8, ground := Ground.data }, { on := 4, ground := Ground.guard }], guard := some (4, false) }) (v := undef) rfl (by kernel_rfl) (by kernel_rfl) (by kernel_rfl) (fun _ _ _ h => h) (Or.inr ⟨by rfl, rfl⟩) (by assumption) ?_
          (try simp only [Act.put, List.setIfInBounds_toArray, List.set_cons_zero, List.set_cons_succ])
          refine wpAnyH_ready (rs := [7]) (by kernel_rfl) (by simp) ?_
          refine AllReadyH.cons (o := { dst := some 45, op := Op.call { callee := Callee.value (Operand.func 12), args := #[Operand.tmp 44], argTypes := #[3] }, type := 9, pos := "law.go:59", after := #[{ on := 6, ground := Ground.data }, { on := 4, ground := Ground.chain }, { on := 4, ground := Ground.guard }], guard := some (4, false) }) rfl (fun K hK => ?_) AllReadyH.nil
          go_simp
          (with_reducible refine (name_J nb HNB.out hj8).mono ?_)
          rintro e W9 ⟨rfl, hj9⟩
          go_wp2_with fail
          refine hK.out _ _ (JX.all hj9) (fun hHeld9 => ?_)
          clear hK K
          (try simp only [Act.put, List.setIfInBounds_toArray, List.set_cons_zero, List.set_cons_succ])
          refine wpAnyH_ready (rs := [10]) (by kernel_rfl) (by simp) ?_
          refine AllReadyH.cons (o := { dst := some 48, op := Op.call { callee := Callee.value (Operand.func 13), args := #[Operand.tmp 47], argTypes := #[3] }, type := 9, pos := "law.go:59", after := #[{ on := 9, ground := Ground.data }, { on := 7, ground := Ground.chain }, { on := 4, ground := Ground.guard }], guard := some (4, false) }) rfl (fun K hK => ?_) AllReadyH.nil
          go_simp
          (with_reducible refine (refname_J nb HNB.out hj9).mono ?_)
          rintro e W10 ⟨rfl, hj10⟩
          go_wp2_with fail
          refine hK.out _ _ (JX.all hj10) (fun hHeld10 => ?_)
          clear hK K
          (try simp only [Act.put, List.setIfInBounds_toArray, List.set_cons_zero, List.set_cons_succ])
          first | (refine wpAnyH_take (i := 11) (oi := { dst := some 49, op := Op.binOp BinOp.neq 9 (Operand.tmp 45) (Operand.tmp 48) 9, type := 4, pos := "law.go:59", after := #[{ on := 7, ground := Ground.data }, { on := 10, ground := Ground.data }, { on := 4, ground := Ground.guard }], guard := some (4, false) }) (v := ?_) rfl (by kernel_rfl) (by kernel_rfl) (by kernel_rfl) (fun _ _ _ h => h) (Or.inl ⟨by rfl, ?_⟩) (by assumption) ?_; rotate_left; focus ((intro W' hSw; (try dsimp only at hSw); go_simp); try with_reducible rfl)) | refine wpAnyH_take (i := 11) (oi := { dst := some 49, op := Op.binOp BinOp.neq 9 (Operand.tmp 45) (Operand.tmp 48) 9, type := 4, pos := "law.go:59", after := #[{ on := 7, ground := Ground.data }, { on := 10, ground := Ground.data }, { on := 4, ground := Ground.guard }], guard := some (4, false) }) (v := undef) rfl (by kernel_rfl) (by kernel_rfl) (by kernel_rfl) (fun _ _ _ h => h) (Or.inr ⟨by rfl, rfl⟩) (by assumption) ?_
          (try simp only [Act.put, List.setIfInBounds_toArray, List.set_cons_zero, List.set_cons_succ])
          first | (refine wpAnyH_take (i := 12) (oi := { dst := some 50, op := Op.pick (Operand.tmp 42) (Operand.const (Value.bool true)) (Operand.tmp 49), type := 4, pos := "law.go:59", after := #[{ on := 4, ground := Ground.data }, { on := 11, ground := Ground.data }], guard := none }) (v := ?_) rfl (by kernel_rfl) (by kernel_rfl) (by kernel_rfl) (fun _ _ _ h => h) (Or.inl ⟨by rfl, ?_⟩) (by assumption) ?_; rotate_left; focus ((intro W' hSw; (try dsimp only at hSw); go_simp); try with_reducible rfl)) | refine wpAnyH_take (i := 12) (oi := { dst := some 50, op := Op.pick (Operand.tmp 42) (Operand.const (Value.bool true)) (Operand.tmp 49), type := 4, pos := "law.go:59", after := #[{ on := 4, ground := Ground.data }, { on := 11, ground := Ground.data }], guard := none }) (v := undef) rfl (by kernel_rfl) (by kernel_rfl) (by kernel_rfl) (fun _ _ _ h => h) (Or.inr ⟨by rfl, rfl⟩) (by assumption) ?_
          (try simp only [Act.put, List.setIfInBounds_toArray, List.set_cons_zero, List.set_cons_succ])
          first | (refine wpAnyH_take (i := 13) (oi := { dst := some 51, op := Op.move (Operand.tmp 50), type := 4, pos := "law.go:59", after := #[{ on := 12, ground := Ground.data }, { on := 10, ground := Ground.chain }], guard := none }) (v := ?_) rfl (by kernel_rfl) (by kernel_rfl) (by kernel_rfl) (fun _ _ _ h => h) (Or.inl ⟨by rfl, ?_⟩) (by assumption) ?_; rotate_left; focus ((intro W' hSw; (try dsimp only at hSw); go_simp); try with_reducible rfl)) | refine wpAnyH_take (i := 13) (oi := { dst := some 51, op := Op.move (Operand.tmp 50), type := 4, pos := "law.go:59", after := #[{ on := 12, ground := Ground.data }, { on := 10, ground := Ground.chain }], guard := none }) (v := undef) rfl (by kernel_rfl) (by kernel_rfl) (by kernel_rfl) (fun _ _ _ h => h) (Or.inr ⟨by rfl, rfl⟩) (by assumption) ?_
          (try simp only [Act.put, List.setIfInBounds_toArray, List.set_cons_zero, List.set_cons_succ])
          first | (refine wpAnyH_take (i := 14) (oi := { dst := some 52, op := Op.load 24 (Operand.tmp 9), type := 24, pos := "law.go:59", after := #[{ on := 13, ground := Ground.guard }], guard := some (13, false) }) (v := ?_) rfl (by kernel_rfl) (by kernel_rfl) (by kernel_rfl) (fun _ _ _ h => h) (Or.inl ⟨by rfl, ?_⟩) (by assumption) ?_; rotate_left; focus ((intro W' hSw; (try dsimp only at hSw); go_simp); try with_reducible rfl)) | refine wpAnyH_take (i := 14) (oi := { dst := some 52, op := Op.load 24 (Operand.tmp 9), type := 24, pos := "law.go:59", after := #[{ on := 13, ground := Ground.guard }], guard := some (13, false) }) (v := undef) rfl (by kernel_rfl) (by kernel_rfl) (by kernel_rfl) (fun _ _ _ h => h) (Or.inr ⟨by rfl, rfl⟩) (by assumption) ?_
          (try simp only [Act.put, List.setIfInBounds_toArray, List.set_cons_zero, List.set_cons_succ])
          first | (refine wpAnyH_take (i := 15) (oi := { dst := some 53, op := Op.load 27 (Operand.tmp 5), type := 27, pos := "law.go:59", after := #[{ on := 13, ground := Ground.guard }], guard := some (13, false) }) (v := ?_) rfl (by kernel_rfl) (by kernel_rfl) (by kernel_rfl) (fun _ _ _ h => h) (Or.inl ⟨by rfl, ?_⟩) (by assumption) ?_; rotate_left; focus ((intro W' hSw; (try dsimp only at hSw); go_simp); try with_reducible rfl)) | refine wpAnyH_take (i := 15) (oi := { dst := some 53, op := Op.load 27 (Operand.tmp 5), type := 27, pos := "law.go:59", after := #[{ on := 13, ground := Ground.guard }], guard := some (13, false) }) (v := undef) rfl (by kernel_rfl) (by kernel_rfl) (by kernel_rfl) (fun _ _ _ h => h) (Or.inr ⟨by rfl, rfl⟩) (by assumption) ?_
          (try simp only [Act.put, List.setIfInBounds_toArray, List.set_cons_zero, List.set_cons_succ])
          refine wpAnyH_ready (rs := [16]) (by kernel_rfl) (by simp) ?_
          refine AllReadyH.cons (o := { dst := some 54, op := Op.call { callee := Callee.value (Operand.func 14), args := #[Operand.tmp 52, Operand.tmp 53], argTypes := #[24, 27] }, type := 4, pos := "law.go:59", after := #[{ on := 14, ground := Ground.data }, { on := 15, ground := Ground.data }, { on := 13, ground := Ground.chain }, { on := 13, ground := Ground.guard }], guard := some (13, false) }) rfl (fun K hK => ?_) AllReadyH.nil
          go_simp
          (with_reducible refine (alike_J HIN.out hj10).mono ?_)
          rintro e W11 ⟨rfl, hj11⟩
          go_wp2_with fail
          refine hK.out _ _ (JX.all hj11) (fun hHeld11 => ?_)
          clear hK K
          (try simp only [Act.put, List.setIfInBounds_toArray, List.set_cons_zero, List.set_cons_succ])
          first | (refine wpAnyH_take (i := 17) (oi := { dst := some 55, op := Op.unOp UnOp.not 4 (Operand.tmp 54), type := 4, pos := "law.go:59", after := #[{ on := 16, ground := Ground.data }, { on := 13, ground := Ground.guard }], guard := some (13, false) }) (v := ?_) rfl (by kernel_rfl) (by kernel_rfl) (by kernel_rfl) (fun _ _ _ h => h) (Or.inl ⟨by rfl, ?_⟩) (by assumption) ?_; rotate_left; focus ((intro W' hSw; (try dsimp only at hSw); go_simp); try with_reducible rfl)) | refine wpAnyH_take (i := 17) (oi := { dst := some 55, op := Op.unOp UnOp.not 4 (Operand.tmp 54), type := 4, pos := "law.go:59", after := #[{ on := 16, ground := Ground.data }, { on := 13, ground := Ground.guard }], guard := some (13, false) }) (v := undef) rfl (by kernel_rfl) (by kernel_rfl) (by kernel_rfl) (fun _ _ _ h => h) (Or.inr ⟨by rfl, rfl⟩) (by assumption) ?_
          (try simp only [Act.put, List.setIfInBounds_toArray, List.set_cons_zero, List.set_cons_succ])
          first | (refine wpAnyH_take (i := 18) (oi := { dst := some 56, op := Op.pick (Operand.tmp 51) (Operand.const (Value.bool true)) (Operand.tmp 55), type := 4, pos := "law.go:59", after := #[{ on := 13, ground := Ground.data }, { on := 17, ground := Ground.data }], guard := none }) (v := ?_) rfl (by kernel_rfl) (by kernel_rfl) (by kernel_rfl) (fun _ _ _ h => h) (Or.inl ⟨by rfl, ?_⟩) (by assumption) ?_; rotate_left; focus ((intro W' hSw; (try dsimp only at hSw); go_simp); try with_reducible rfl)) | refine wpAnyH_take (i := 18) (oi := { dst := some 56, op := Op.pick (Operand.tmp 51) (Operand.const (Value.bool true)) (Operand.tmp 55), type := 4, pos := "law.go:59", after := #[{ on := 13, ground := Ground.data }, { on := 17, ground := Ground.data }], guard := none }) (v := undef) rfl (by kernel_rfl) (by kernel_rfl) (by kernel_rfl) (fun _ _ _ h => h) (Or.inr ⟨by rfl, rfl⟩) (by assumption) ?_
          (try simp only [Act.put, List.setIfInBounds_toArray, List.set_cons_zero, List.set_cons_succ])
          first | (refine wpAnyH_take (i := 19) (oi := { dst := some 57, op := Op.move (Operand.tmp 56), type := 4, pos := "law.go:59", after := #[{ on := 18, ground := Ground.data }, { on := 16, ground := Ground.chain }], guard := none }) (v := ?_) rfl (by kernel_rfl) (by kernel_rfl) (by kernel_rfl) (fun _ _ _ h => h) (Or.inl ⟨by rfl, ?_⟩) (by assumption) ?_; rotate_left; focus ((intro W' hSw; (try dsimp only at hSw); go_simp); try with_reducible rfl)) | refine wpAnyH_take (i := 19) (oi := { dst := some 57, op := Op.move (Operand.tmp 56), type := 4, pos := "law.go:59", after := #[{ on := 18, ground := Ground.data }, { on := 16, ground := Ground.chain }], guard := none }) (v := undef) rfl (by kernel_rfl) (by kernel_rfl) (by kernel_rfl) (fun _ _ _ h => h) (Or.inr ⟨by rfl, rfl⟩) (by assumption) ?_
          (try simp only [Act.put, List.setIfInBounds_toArray, List.set_cons_zero, List.set_cons_succ])
          first | (refine wpAnyH_take (i := 20) (oi := { dst := some 58, op := Op.load 24 (Operand.tmp 9), type := 24, pos := "law.go:59", after := #[{ on := 19, ground := Ground.guard }], guard := some (19, false) }) (v := ?_) rfl (by kernel_rfl) (by kernel_rfl) (by kernel_rfl) (fun _ _ _ h => h) (Or.inl ⟨by rfl, ?_⟩) (by assumption) ?_; rotate_left; focus ((intro W' hSw; (try dsimp only at hSw); go_simp); try with_reducible rfl)) | refine wpAnyH_take (i := 20) (oi := { dst := some 58, op := Op.load 24 (Operand.tmp 9), type := 24, pos := "law.go:59", after := #[{ on := 19, ground := Ground.guard }], guard := some (19, false) }) (v := undef) rfl (by kernel_rfl) (by kernel_rfl) (by kernel_rfl) (fun _ _ _ h => h) (Or.inr ⟨by rfl, rfl⟩) (by assumption) ?_
          (try simp only [Act.put, List.setIfInBounds_toArray, List.set_cons_zero, List.set_cons_succ])
          first | (refine wpAnyH_take (i := 21) (oi := { dst := some 59, op := Op.load 24 (Operand.tmp 2), type := 24, pos := "law.go:59", after := #[{ on := 19, ground := Ground.guard }], guard := some (19, false) }) (v := ?_) rfl (by kernel_rfl) (by kernel_rfl) (by kernel_rfl) (fun _ _ _ h => h) (Or.inl ⟨by rfl, ?_⟩) (by assumption) ?_; rotate_left; focus ((intro W' hSw; (try dsimp only at hSw); go_simp); try with_reducible rfl)) | refine wpAnyH_take (i := 21) (oi := { dst := some 59, op := Op.load 24 (Operand.tmp 2), type := 24, pos := "law.go:59", after := #[{ on := 19, ground := Ground.guard }], guard := some (19, false) }) (v := undef) rfl (by kernel_rfl) (by kernel_rfl) (by kernel_rfl) (fun _ _ _ h => h) (Or.inr ⟨by rfl, rfl⟩) (by assumption) ?_
          (try simp only [Act.put, List.setIfInBounds_toArray, List.set_cons_zero, List.set_cons_succ])
          refine wpAnyH_ready (rs := [22]) (by kernel_rfl) (by simp) ?_
          refine AllReadyH.cons (o := { dst := some 60, op := Op.call { callee := Callee.value (Operand.func 15), args := #[Operand.tmp 58, Operand.tmp 59], argTypes := #[24, 24] }, type := 4, pos := "law.go:59", after := #[{ on := 20, ground := Ground.data }, { on := 21, ground := Ground.data }, { on := 19, ground := Ground.chain }, { on := 19, ground := Ground.guard }], guard := some (19, false) }) rfl (fun K hK => ?_) AllReadyH.nil
          go_simp
          (with_reducible refine (same_J HIN.out hj11).mono ?_)
          rintro e W12 ⟨rfl, hj12⟩
          go_wp2_with fail
          refine hK.out _ _ (JX.all hj12) (fun hHeld12 => ?_)
          clear hK K
          (try simp only [Act.put, List.setIfInBounds_toArray, List.set_cons_zero, List.set_cons_succ])
          first | (refine wpAnyH_take (i := 23) (oi := { dst := some 61, op := Op.unOp UnOp.not 4 (Operand.tmp 60), type := 4, pos := "law.go:59", after := #[{ on := 22, ground := Ground.data }, { on := 19, ground := Ground.guard }], guard := some (19, false) }) (v := ?_) rfl (by kernel_rfl) (by kernel_rfl) (by kernel_rfl) (fun _ _ _ h => h) (Or.inl ⟨by rfl, ?_⟩) (by assumption) ?_; rotate_left; focus ((intro W' hSw; (try dsimp only at hSw); go_simp); try with_reducible rfl)) | refine wpAnyH_take (i := 23) (oi := { dst := some 61, op := Op.unOp UnOp.not 4 (Operand.tmp 60), type := 4, pos := "law.go:59", after := #[{ on := 22, ground := Ground.data }, { on := 19, ground := Ground.guard }], guard := some (19, false) }) (v := undef) rfl (by kernel_rfl) (by kernel_rfl) (by kernel_rfl) (fun _ _ _ h => h) (Or.inr ⟨by rfl, rfl⟩) (by assumption) ?_
          (try simp only [Act.put, List.setIfInBounds_toArray, List.set_cons_zero, List.set_cons_succ])
          first | (refine wpAnyH_take (i := 24) (oi := { dst := some 62, op := Op.pick (Operand.tmp 57) (Operand.const (Value.bool true)) (Operand.tmp 61), type := 4, pos := "law.go:59", after := #[{ on := 19, ground := Ground.data }, { on := 23, ground := Ground.data }], guard := none }) (v := ?_) rfl (by kernel_rfl) (by kernel_rfl) (by kernel_rfl) (fun _ _ _ h => h) (Or.inl ⟨by rfl, ?_⟩) (by assumption) ?_; rotate_left; focus ((intro W' hSw; (try dsimp only at hSw); go_simp); try with_reducible rfl)) | refine wpAnyH_take (i := 24) (oi := { dst := some 62, op := Op.pick (Operand.tmp 57) (Operand.const (Value.bool true)) (Operand.tmp 61), type := 4, pos := "law.go:59", after := #[{ on := 19, ground := Ground.data }, { on := 23, ground := Ground.data }], guard := none }) (v := undef) rfl (by kernel_rfl) (by kernel_rfl) (by kernel_rfl) (fun _ _ _ h => h) (Or.inr ⟨by rfl, rfl⟩) (by assumption) ?_
          (try simp only [Act.put, List.setIfInBounds_toArray, List.set_cons_zero, List.set_cons_succ])
          first | (refine wpAnyH_take (i := 25) (oi := { dst := some 63, op := Op.move (Operand.tmp 62), type := 4, pos := "law.go:59", after := #[{ on := 24, ground := Ground.data }, { on := 22, ground := Ground.chain }], guard := none }) (v := ?_) rfl (by kernel_rfl) (by kernel_rfl) (by kernel_rfl) (fun _ _ _ h => h) (Or.inl ⟨by rfl, ?_⟩) (by assumption) ?_; rotate_left; focus ((intro W' hSw; (try dsimp only at hSw); go_simp); try with_reducible rfl)) | refine wpAnyH_take (i := 25) (oi := { dst := some 63, op := Op.move (Operand.tmp 62), type := 4, pos := "law.go:59", after := #[{ on := 24, ground := Ground.data }, { on := 22, ground := Ground.chain }], guard := none }) (v := undef) rfl (by kernel_rfl) (by kernel_rfl) (by kernel_rfl) (fun _ _ _ h => h) (Or.inr ⟨by rfl, rfl⟩) (by assumption) ?_
          (try simp only [Act.put, List.setIfInBounds_toArray, List.set_cons_zero, List.set_cons_succ])
          first | (refine wpAnyH_take (i := 26) (oi := { dst := some 64, op := Op.move (Operand.tmp 6), type := 4, pos := "law.go:59", after := #[{ on := 25, ground := Ground.guard }], guard := some (25, false) }) (v := ?_) rfl (by kernel_rfl) (by kernel_rfl) (by kernel_rfl) (fun _ _ _ h => h) (Or.inl ⟨by rfl, ?_⟩) (by assumption) ?_; rotate_left; focus ((intro W' hSw; (try dsimp only at hSw); go_simp); try with_reducible rfl)) | refine wpAnyH_take (i := 26) (oi := { dst := some 64, op := Op.move (Operand.tmp 6), type := 4, pos := "law.go:59", after := #[{ on := 25, ground := Ground.guard }], guard := some (25, false) }) (v := undef) rfl (by kernel_rfl) (by kernel_rfl) (by kernel_rfl) (fun _ _ _ h => h) (Or.inr ⟨by rfl, rfl⟩) (by assumption) ?_
          (try simp only [Act.put, List.setIfInBounds_toArray, List.set_cons_zero, List.set_cons_succ])
          first | (refine wpAnyH_take (i := 27) (oi := { dst := some 65, op := Op.move (Operand.tmp 64), type := 4, pos := "law.go:59", after := #[{ on := 26, ground := Ground.data }, { on := 25, ground := Ground.chain }, { on := 25, ground := Ground.guard }], guard := some (25, false) }) (v := ?_) rfl (by kernel_rfl) (by kernel_rfl) (by kernel_rfl) (fun _ _ _ h => h) (Or.inl ⟨by rfl, ?_⟩) (by assumption) ?_; rotate_left; focus ((intro W' hSw; (try dsimp only at hSw); go_simp); try with_reducible rfl)) | refine wpAnyH_take (i := 27) (oi := { dst := some 65, op := Op.move (Operand.tmp 64), type := 4, pos := "law.go:59", after := #[{ on := 26, ground := Ground.data }, { on := 25, ground := Ground.chain }, { on := 25, ground := Ground.guard }], guard := some (25, false) }) (v := undef) rfl (by kernel_rfl) (by kernel_rfl) (by kernel_rfl) (fun _ _ _ h => h) (Or.inr ⟨by rfl, rfl⟩) (by assumption) ?_
          (try simp only [Act.put, List.setIfInBounds_toArray, List.set_cons_zero, List.set_cons_succ])
          first | (refine wpAnyH_take (i := 28) (oi := { dst := some 66, op := Op.move (Operand.tmp 8), type := 30, pos := "law.go:59", after := #[{ on := 27, ground := Ground.guard }], guard := some (27, true) }) (v := ?_) rfl (by kernel_rfl) (by kernel_rfl) (by kernel_rfl) (fun _ _ _ h => h) (Or.inl ⟨by rfl, ?_⟩) (by assumption) ?_; rotate_left; focus ((intro W' hSw; (try dsimp only at hSw); go_simp); try with_reducible rfl)) | refine wpAnyH_take (i := 28) (oi := { dst := some 66, op := Op.move (Operand.tmp 8), type := 30, pos := "law.go:59", after := #[{ on := 27, ground := Ground.guard }], guard := some (27, true) }) (v := undef) rfl (by kernel_rfl) (by kernel_rfl) (by kernel_rfl) (fun _ _ _ h => h) (Or.inr ⟨by rfl, rfl⟩) (by assumption) ?_
          (try simp only [Act.put, List.setIfInBounds_toArray, List.set_cons_zero, List.set_cons_succ])
          first | (refine wpAnyH_take (i := 29) (oi := { dst := some 67, op := Op.binOp BinOp.neq 30 (Operand.tmp 66) (Operand.const (Value.int IntKind.i64 0)) 30, type := 4, pos := "law.go:59", after := #[{ on := 28, ground := Ground.data }, { on := 27, ground := Ground.guard }], guard := some (27, true) }) (v := ?_) rfl (by kernel_rfl) (by kernel_rfl) (by kernel_rfl) (fun _ _ _ h => h) (Or.inl ⟨by rfl, ?_⟩) (by assumption) ?_; rotate_left; focus ((intro W' hSw; (try dsimp only at hSw); go_simp); try with_reducible rfl)) | refine wpAnyH_take (i := 29) (oi := { dst := some 67, op := Op.binOp BinOp.neq 30 (Operand.tmp 66) (Operand.const (Value.int IntKind.i64 0)) 30, type := 4, pos := "law.go:59", after := #[{ on := 28, ground := Ground.data }, { on := 27, ground := Ground.guard }], guard := some (27, true) }) (v := undef) rfl (by kernel_rfl) (by kernel_rfl) (by kernel_rfl) (fun _ _ _ h => h) (Or.inr ⟨by rfl, rfl⟩) (by assumption) ?_
          (try simp only [Act.put, List.setIfInBounds_toArray, List.set_cons_zero, List.set_cons_succ])
          first | (refine wpAnyH_take (i := 30) (oi := { dst := some 68, op := Op.move (Operand.tmp 67), type := 4, pos := "law.go:59", after := #[{ on := 29, ground := Ground.data }, { on := 27, ground := Ground.chain }, { on := 27, ground := Ground.guard }], guard := some (27, true) }) (v := ?_) rfl (by kernel_rfl) (by kernel_rfl) (by kernel_rfl) (fun _ _ _ h => h) (Or.inl ⟨by rfl, ?_⟩) (by assumption) ?_; rotate_left; focus ((intro W' hSw; (try dsimp only at hSw); go_simp); try with_reducible rfl)) | refine wpAnyH_take (i := 30) (oi := { dst := some 68, op := Op.move (Operand.tmp 67), type := 4, pos := "law.go:59", after := #[{ on := 29, ground := Ground.data }, { on := 27, ground := Ground.chain }, { on := 27, ground := Ground.guard }], guard := some (27, true) }) (v := undef) rfl (by kernel_rfl) (by kernel_rfl) (by kernel_rfl) (fun _ _ _ h => h) (Or.inr ⟨by rfl, rfl⟩) (by assumption) ?_
          (try simp only [Act.put, List.setIfInBounds_toArray, List.set_cons_zero, List.set_cons_succ])
          first | (refine wpAnyH_take (i := 31) (oi := { dst := some 69, op := Op.move (Operand.tmp 7), type := 9, pos := "law.go:59", after := #[{ on := 30, ground := Ground.guard }], guard := some (30, false) }) (v := ?_) rfl (by kernel_rfl) (by kernel_rfl) (by kernel_rfl) (fun _ _ _ h => h) (Or.inl ⟨by rfl, ?_⟩) (by assumption) ?_; rotate_left; focus ((intro W' hSw; (try dsimp only at hSw); go_simp); try with_reducible rfl)) | refine wpAnyH_take (i := 31) (oi := { dst := some 69, op := Op.move (Operand.tmp 7), type := 9, pos := "law.go:59", after := #[{ on := 30, ground := Ground.guard }], guard := some (30, false) }) (v := undef) rfl (by kernel_rfl) (by kernel_rfl) (by kernel_rfl) (fun _ _ _ h => h) (Or.inr ⟨by rfl, rfl⟩) (by assumption) ?_
          (try simp only [Act.put, List.setIfInBounds_toArray, List.set_cons_zero, List.set_cons_succ])
          first | (refine wpAnyH_take (i := 32) (oi := { dst := some 70, op := Op.load 27 (Operand.tmp 5), type := 27, pos := "law.go:59", after := #[{ on := 30, ground := Ground.guard }], guard := some (30, false) }) (v := ?_) rfl (by kernel_rfl) (by kernel_rfl) (by kernel_rfl) (fun _ _ _ h => h) (Or.inl ⟨by rfl, ?_⟩) (by assumption) ?_; rotate_left; focus ((intro W' hSw; (try dsimp only at hSw); go_simp); try with_reducible rfl)) | refine wpAnyH_take (i := 32) (oi := { dst := some 70, op := Op.load 27 (Operand.tmp 5), type := 27, pos := "law.go:59", after := #[{ on := 30, ground := Ground.guard }], guard := some (30, false) }) (v := undef) rfl (by kernel_rfl) (by kernel_rfl) (by kernel_rfl) (fun _ _ _ h => h) (Or.inr ⟨by rfl, rfl⟩) (by assumption) ?_
          (try simp only [Act.put, List.setIfInBounds_toArray, List.set_cons_zero, List.set_cons_succ])
          first | (refine wpAnyH_take (i := 33) (oi := { dst := some 71, op := Op.call { callee := Callee.value (Operand.func 16), args := #[Operand.tmp 70], argTypes := #[27] }, type := 9, pos := "law.go:59", after := #[{ on := 32, ground := Ground.data }, { on := 30, ground := Ground.chain }, { on := 30, ground := Ground.guard }], guard := some (30, false) }) (v := ?_) rfl (by kernel_rfl) (by kernel_rfl) (by kernel_rfl) (fun _ _ _ h => h) (Or.inl ⟨by rfl, ?_⟩) (by assumption) ?_; rotate_left; focus ((intro W' hSw; (try dsimp only at hSw); go_simp); try with_reducible rfl)) | refine wpAnyH_take (i := 33) (oi := { dst := some 71, op := Op.call { callee := Callee.value (Operand.func 16), args := #[Operand.tmp 70], argTypes := #[27] }, type := 9, pos := "law.go:59", after := #[{ on := 32, ground := Ground.data }, { on := 30, ground := Ground.chain }, { on := 30, ground := Ground.guard }], guard := some (30, false) }) (v := undef) rfl (by kernel_rfl) (by kernel_rfl) (by kernel_rfl) (fun _ _ _ h => h) (Or.inr ⟨by rfl, rfl⟩) (by assumption) ?_
          (try simp only [Act.put, List.setIfInBounds_toArray, List.set_cons_zero, List.set_cons_succ])
          first | (refine wpAnyH_take (i := 34) (oi := { dst := some 72, op := Op.binOp BinOp.neq 9 (Operand.tmp 69) (Operand.tmp 71) 9, type := 4, pos := "law.go:59", after := #[{ on := 31, ground := Ground.data }, { on := 33, ground := Ground.data }, { on := 30, ground := Ground.guard }], guard := some (30, false) }) (v := ?_) rfl (by kernel_rfl) (by kernel_rfl) (by kernel_rfl) (fun _ _ _ h => h) (Or.inl ⟨by rfl, ?_⟩) (by assumption) ?_; rotate_left; focus ((intro W' hSw; (try dsimp only at hSw); go_simp); try with_reducible rfl)) | refine wpAnyH_take (i := 34) (oi := { dst := some 72, op := Op.binOp BinOp.neq 9 (Operand.tmp 69) (Operand.tmp 71) 9, type := 4, pos := "law.go:59", after := #[{ on := 31, ground := Ground.data }, { on := 33, ground := Ground.data }, { on := 30, ground := Ground.guard }], guard := some (30, false) }) (v := undef) rfl (by kernel_rfl) (by kernel_rfl) (by kernel_rfl) (fun _ _ _ h => h) (Or.inr ⟨by rfl, rfl⟩) (by assumption) ?_
          (try simp only [Act.put, List.setIfInBounds_toArray, List.set_cons_zero, List.set_cons_succ])
          first | (refine wpAnyH_take (i := 35) (oi := { dst := some 73, op := Op.pick (Operand.tmp 68) (Operand.const (Value.bool true)) (Operand.tmp 72), type := 4, pos := "law.go:59", after := #[{ on := 30, ground := Ground.data }, { on := 34, ground := Ground.data }, { on := 27, ground := Ground.guard }], guard := some (27, true) }) (v := ?_) rfl (by kernel_rfl) (by kernel_rfl) (by kernel_rfl) (fun _ _ _ h => h) (Or.inl ⟨by rfl, ?_⟩) (by assumption) ?_; rotate_left; focus ((intro W' hSw; (try dsimp only at hSw); go_simp); try with_reducible rfl)) | refine wpAnyH_take (i := 35) (oi := { dst := some 73, op := Op.pick (Operand.tmp 68) (Operand.const (Value.bool true)) (Operand.tmp 72), type := 4, pos := "law.go:59", after := #[{ on := 30, ground := Ground.data }, { on := 34, ground := Ground.data }, { on := 27, ground := Ground.guard }], guard := some (27, true) }) (v := undef) rfl (by kernel_rfl) (by kernel_rfl) (by kernel_rfl) (fun _ _ _ h => h) (Or.inr ⟨by rfl, rfl⟩) (by assumption) ?_
          (try simp only [Act.put, List.setIfInBounds_toArray, List.set_cons_zero, List.set_cons_succ])
          first | (refine wpAnyH_take (i := 36) (oi := { dst := some 74, op := Op.pick (Operand.tmp 65) (Operand.tmp 73) (Operand.const (Value.bool false)), type := 4, pos := "law.go:59", after := #[{ on := 27, ground := Ground.data }, { on := 35, ground := Ground.data }, { on := 25, ground := Ground.guard }], guard := some (25, false) }) (v := ?_) rfl (by kernel_rfl) (by kernel_rfl) (by kernel_rfl) (fun _ _ _ h => h) (Or.inl ⟨by rfl, ?_⟩) (by assumption) ?_; rotate_left; focus ((intro W' hSw; (try dsimp only at hSw); go_simp); try with_reducible rfl)) | refine wpAnyH_take (i := 36) (oi := { dst := some 74, op := Op.pick (Operand.tmp 65) (Operand.tmp 73) (Operand.const (Value.bool false)), type := 4, pos := "law.go:59", after := #[{ on := 27, ground := Ground.data }, { on := 35, ground := Ground.data }, { on := 25, ground := Ground.guard }], guard := some (25, false) }) (v := undef) rfl (by kernel_rfl) (by kernel_rfl) (by kernel_rfl) (fun _ _ _ h => h) (Or.inr ⟨by rfl, rfl⟩) (by assumption) ?_
          (try simp only [Act.put, List.setIfInBounds_toArray, List.set_cons_zero, List.set_cons_succ])
          first | (refine wpAnyH_take (i := 37) (oi := { dst := some 75, op := Op.pick (Operand.tmp 63) (Operand.const (Value.bool true)) (Operand.tmp 74), type := 4, pos := "law.go:59", after := #[{ on := 25, ground := Ground.data }, { on := 36, ground := Ground.data }], guard := none }) (v := ?_) rfl (by kernel_rfl) (by kernel_rfl) (by kernel_rfl) (fun _ _ _ h => h) (Or.inl ⟨by rfl, ?_⟩) (by assumption) ?_; rotate_left; focus ((intro W' hSw; (try dsimp only at hSw); go_simp); try with_reducible rfl)) | refine wpAnyH_take (i := 37) (oi := { dst := some 75, op := Op.pick (Operand.tmp 63) (Operand.const (Value.bool true)) (Operand.tmp 74), type := 4, pos := "law.go:59", after := #[{ on := 25, ground := Ground.data }, { on := 36, ground := Ground.data }], guard := none }) (v := undef) rfl (by kernel_rfl) (by kernel_rfl) (by kernel_rfl) (fun _ _ _ h => h) (Or.inr ⟨by rfl, rfl⟩) (by assumption) ?_
          (try simp only [Act.put, List.setIfInBounds_toArray, List.set_cons_zero, List.set_cons_succ])
          first | (refine wpAnyH_take (i := 38) (oi := { dst := some 76, op := Op.move (Operand.tmp 75), type := 4, pos := "law.go:59", after := #[{ on := 37, ground := Ground.data }, { on := 33, ground := Ground.chain }], guard := none }) (v := ?_) rfl (by kernel_rfl) (by kernel_rfl) (by kernel_rfl) (fun _ _ _ h => h) (Or.inl ⟨by rfl, ?_⟩) (by assumption) ?_; rotate_left; focus ((intro W' hSw; (try dsimp only at hSw); go_simp); try with_reducible rfl)) | refine wpAnyH_take (i := 38) (oi := { dst := some 76, op := Op.move (Operand.tmp 75), type := 4, pos := "law.go:59", after := #[{ on := 37, ground := Ground.data }, { on := 33, ground := Ground.chain }], guard := none }) (v := undef) rfl (by kernel_rfl) (by kernel_rfl) (by kernel_rfl) (fun _ _ _ h => h) (Or.inr ⟨by rfl, rfl⟩) (by assumption) ?_
          (try simp only [Act.put, List.setIfInBounds_toArray, List.set_cons_zero, List.set_cons_succ])
          first | (refine wpAnyH_take (i := 39) (oi := { dst := some 77, op := Op.move (Operand.tmp 6), type := 4, pos := "law.go:59", after := #[{ on := 38, ground := Ground.guard }], guard := some (38, false) }) (v := ?_) rfl (by kernel_rfl) (by kernel_rfl) (by kernel_rfl) (fun _ _ _ h => h) (Or.inl ⟨by rfl, ?_⟩) (by assumption) ?_; rotate_left; focus ((intro W' hSw; (try dsimp only at hSw); go_simp); try with_reducible rfl)) | refine wpAnyH_take (i := 39) (oi := { dst := some 77, op := Op.move (Operand.tmp 6), type := 4, pos := "law.go:59", after := #[{ on := 38, ground := Ground.guard }], guard := some (38, false) }) (v := undef) rfl (by kernel_rfl) (by kernel_rfl) (by kernel_rfl) (fun _ _ _ h => h) (Or.inr ⟨by rfl, rfl⟩) (by assumption) ?_
          (try simp only [Act.put, List.setIfInBounds_toArray, List.set_cons_zero, List.set_cons_succ])
          first | (refine wpAnyH_take (i := 40) (oi := { dst := some 78, op := Op.unOp UnOp.not 4 (Operand.tmp 77), type := 4, pos := "law.go:59", after := #[{ on := 39, ground := Ground.data }, { on := 38, ground := Ground.guard }], guard := some (38, false) }) (v := ?_) rfl (by kernel_rfl) (by kernel_rfl) (by kernel_rfl) (fun _ _ _ h => h) (Or.inl ⟨by rfl, ?_⟩) (by assumption) ?_; rotate_left; focus ((intro W' hSw; (try dsimp only at hSw); go_simp); try with_reducible rfl)) | refine wpAnyH_take (i := 40) (oi := { dst := some 78, op := Op.unOp UnOp.not 4 (Operand.tmp 77), type := 4, pos := "law.go:59", after := #[{ on := 39, ground := Ground.data }, { on := 38, ground := Ground.guard }], guard := some (38, false) }) (v := undef) rfl (by kernel_rfl) (by kernel_rfl) (by kernel_rfl) (fun _ _ _ h => h) (Or.inr ⟨by rfl, rfl⟩) (by assumption) ?_
          (try simp only [Act.put, List.setIfInBounds_toArray, List.set_cons_zero, List.set_cons_succ])
          first | (refine wpAnyH_take (i := 41) (oi := { dst := some 79, op := Op.move (Operand.tmp 78), type := 4, pos := "law.go:59", after := #[{ on := 40, ground := Ground.data }, { on := 38, ground := Ground.chain }, { on := 38, ground := Ground.guard }], guard := some (38, false) }) (v := ?_) rfl (by kernel_rfl) (by kernel_rfl) (by kernel_rfl) (fun _ _ _ h => h) (Or.inl ⟨by rfl, ?_⟩) (by assumption) ?_; rotate_left; focus ((intro W' hSw; (try dsimp only at hSw); go_simp); try with_reducible rfl)) | refine wpAnyH_take (i := 41) (oi := { dst := some 79, op := Op.move (Operand.tmp 78), type := 4, pos := "law.go:59", after := #[{ on := 40, ground := Ground.data }, { on := 38, ground := Ground.chain }, { on := 38, ground := Ground.guard }], guard := some (38, false) }) (v := undef) rfl (by kernel_rfl) (by kernel_rfl) (by kernel_rfl) (fun _ _ _ h => h) (Or.inr ⟨by rfl, rfl⟩) (by assumption) ?_
          (try simp only [Act.put, List.setIfInBounds_toArray, List.set_cons_zero, List.set_cons_succ])
          first | (refine wpAnyH_take (i := 42) (oi := { dst := some 80, op := Op.move (Operand.tmp 8), type := 30, pos := "law.go:59", after := #[{ on := 41, ground := Ground.guard }], guard := some (41, true) }) (v := ?_) rfl (by kernel_rfl) (by kernel_rfl) (by kernel_rfl) (fun _ _ _ h => h) (Or.inl ⟨by rfl, ?_⟩) (by assumption) ?_; rotate_left; focus ((intro W' hSw; (try dsimp only at hSw); go_simp); try with_reducible rfl)) | refine wpAnyH_take (i := 42) (oi := { dst := some 80, op := Op.move (Operand.tmp 8), type := 30, pos := "law.go:59", after := #[{ on := 41, ground := Ground.guard }], guard := some (41, true) }) (v := undef) rfl (by kernel_rfl) (by kernel_rfl) (by kernel_rfl) (fun _ _ _ h => h) (Or.inr ⟨by rfl, rfl⟩) (by assumption) ?_
          (try simp only [Act.put, List.setIfInBounds_toArray, List.set_cons_zero, List.set_cons_succ])
          first | (refine wpAnyH_take (i := 43) (oi := { dst := some 81, op := Op.binOp BinOp.neq 30 (Operand.tmp 80) (Operand.const (Value.int IntKind.i64 1)) 30, type := 4, pos := "law.go:59", after := #[{ on := 42, ground := Ground.data }, { on := 41, ground := Ground.guard }], guard := some (41, true) }) (v := ?_) rfl (by kernel_rfl) (by kernel_rfl) (by kernel_rfl) (fun _ _ _ h => h) (Or.inl ⟨by rfl, ?_⟩) (by assumption) ?_; rotate_left; focus ((intro W' hSw; (try dsimp only at hSw); go_simp); try with_reducible rfl)) | refine wpAnyH_take (i := 43) (oi := { dst := some 81, op := Op.binOp BinOp.neq 30 (Operand.tmp 80) (Operand.const (Value.int IntKind.i64 1)) 30, type := 4, pos := "law.go:59", after := #[{ on := 42, ground := Ground.data }, { on := 41, ground := Ground.guard }], guard := some (41, true) }) (v := undef) rfl (by kernel_rfl) (by kernel_rfl) (by kernel_rfl) (fun _ _ _ h => h) (Or.inr ⟨by rfl, rfl⟩) (by assumption) ?_
          (try simp only [Act.put, List.setIfInBounds_toArray, List.set_cons_zero, List.set_cons_succ])
          first | (refine wpAnyH_take (i := 44) (oi := { dst := some 82, op := Op.move (Operand.tmp 81), type := 4, pos := "law.go:59", after := #[{ on := 43, ground := Ground.data }, { on := 41, ground := Ground.chain }, { on := 41, ground := Ground.guard }], guard := some (41, true) }) (v := ?_) rfl (by kernel_rfl) (by kernel_rfl) (by kernel_rfl) (fun _ _ _ h => h) (Or.inl ⟨by rfl, ?_⟩) (by assumption) ?_; rotate_left; focus ((intro W' hSw; (try dsimp only at hSw); go_simp); try with_reducible rfl)) | refine wpAnyH_take (i := 44) (oi := { dst := some 82, op := Op.move (Operand.tmp 81), type := 4, pos := "law.go:59", after := #[{ on := 43, ground := Ground.data }, { on := 41, ground := Ground.chain }, { on := 41, ground := Ground.guard }], guard := some (41, true) }) (v := undef) rfl (by kernel_rfl) (by kernel_rfl) (by kernel_rfl) (fun _ _ _ h => h) (Or.inr ⟨by rfl, rfl⟩) (by assumption) ?_
          (try simp only [Act.put, List.setIfInBounds_toArray, List.set_cons_zero, List.set_cons_succ])
          first | (refine wpAnyH_take (i := 45) (oi := { dst := some 83, op := Op.move (Operand.tmp 7), type := 9, pos := "law.go:59", after := #[{ on := 44, ground := Ground.guard }], guard := some (44, false) }) (v := ?_) rfl (by kernel_rfl) (by kernel_rfl) (by kernel_rfl) (fun _ _ _ h => h) (Or.inl ⟨by rfl, ?_⟩) (by assumption) ?_; rotate_left; focus ((intro W' hSw; (try dsimp only at hSw); go_simp); try with_reducible rfl)) | refine wpAnyH_take (i := 45) (oi := { dst := some 83, op := Op.move (Operand.tmp 7), type := 9, pos := "law.go:59", after := #[{ on := 44, ground := Ground.guard }], guard := some (44, false) }) (v := undef) rfl (by kernel_rfl) (by kernel_rfl) (by kernel_rfl) (fun _ _ _ h => h) (Or.inr ⟨by rfl, rfl⟩) (by assumption) ?_
          (try simp only [Act.put, List.setIfInBounds_toArray, List.set_cons_zero, List.set_cons_succ])
          first | (refine wpAnyH_take (i := 46) (oi := { dst := some 84, op := Op.binOp BinOp.neq 9 (Operand.tmp 83) (Operand.const (Value.string { data := #[] })) 9, type := 4, pos := "law.go:59", after := #[{ on := 45, ground := Ground.data }, { on := 44, ground := Ground.guard }], guard := some (44, false) }) (v := ?_) rfl (by kernel_rfl) (by kernel_rfl) (by kernel_rfl) (fun _ _ _ h => h) (Or.inl ⟨by rfl, ?_⟩) (by assumption) ?_; rotate_left; focus ((intro W' hSw; (try dsimp only at hSw); go_simp); try with_reducible rfl)) | refine wpAnyH_take (i := 46) (oi := { dst := some 84, op := Op.binOp BinOp.neq 9 (Operand.tmp 83) (Operand.const (Value.string { data := #[] })) 9, type := 4, pos := "law.go:59", after := #[{ on := 45, ground := Ground.data }, { on := 44, ground := Ground.guard }], guard := some (44, false) }) (v := undef) rfl (by kernel_rfl) (by kernel_rfl) (by kernel_rfl) (fun _ _ _ h => h) (Or.inr ⟨by rfl, rfl⟩) (by assumption) ?_
          (try simp only [Act.put, List.setIfInBounds_toArray, List.set_cons_zero, List.set_cons_succ])
          first | (refine wpAnyH_take (i := 47) (oi := { dst := some 85, op := Op.pick (Operand.tmp 82) (Operand.const (Value.bool true)) (Operand.tmp 84), type := 4, pos := "law.go:59", after := #[{ on := 44, ground := Ground.data }, { on := 46, ground := Ground.data }, { on := 41, ground := Ground.guard }], guard := some (41, true) }) (v := ?_) rfl (by kernel_rfl) (by kernel_rfl) (by kernel_rfl) (fun _ _ _ h => h) (Or.inl ⟨by rfl, ?_⟩) (by assumption) ?_; rotate_left; focus ((intro W' hSw; (try dsimp only at hSw); go_simp); try with_reducible rfl)) | refine wpAnyH_take (i := 47) (oi := { dst := some 85, op := Op.pick (Operand.tmp 82) (Operand.const (Value.bool true)) (Operand.tmp 84), type := 4, pos := "law.go:59", after := #[{ on := 44, ground := Ground.data }, { on := 46, ground := Ground.data }, { on := 41, ground := Ground.guard }], guard := some (41, true) }) (v := undef) rfl (by kernel_rfl) (by kernel_rfl) (by kernel_rfl) (fun _ _ _ h => h) (Or.inr ⟨by rfl, rfl⟩) (by assumption) ?_
          (try simp only [Act.put, List.setIfInBounds_toArray, List.set_cons_zero, List.set_cons_succ])
          first | (refine wpAnyH_take (i := 48) (oi := { dst := some 86, op := Op.pick (Operand.tmp 79) (Operand.tmp 85) (Operand.const (Value.bool false)), type := 4, pos := "law.go:59", after := #[{ on := 41, ground := Ground.data }, { on := 47, ground := Ground.data }, { on := 38, ground := Ground.guard }], guard := some (38, false) }) (v := ?_) rfl (by kernel_rfl) (by kernel_rfl) (by kernel_rfl) (fun _ _ _ h => h) (Or.inl ⟨by rfl, ?_⟩) (by assumption) ?_; rotate_left; focus ((intro W' hSw; (try dsimp only at hSw); go_simp); try with_reducible rfl)) | refine wpAnyH_take (i := 48) (oi := { dst := some 86, op := Op.pick (Operand.tmp 79) (Operand.tmp 85) (Operand.const (Value.bool false)), type := 4, pos := "law.go:59", after := #[{ on := 41, ground := Ground.data }, { on := 47, ground := Ground.data }, { on := 38, ground := Ground.guard }], guard := some (38, false) }) (v := undef) rfl (by kernel_rfl) (by kernel_rfl) (by kernel_rfl) (fun _ _ _ h => h) (Or.inr ⟨by rfl, rfl⟩) (by assumption) ?_
          (try simp only [Act.put, List.setIfInBounds_toArray, List.set_cons_zero, List.set_cons_succ])
          first | (refine wpAnyH_take (i := 49) (oi := { dst := some 87, op := Op.pick (Operand.tmp 76) (Operand.const (Value.bool true)) (Operand.tmp 86), type := 4, pos := "law.go:59", after := #[{ on := 38, ground := Ground.data }, { on := 48, ground := Ground.data }], guard := none }) (v := ?_) rfl (by kernel_rfl) (by kernel_rfl) (by kernel_rfl) (fun _ _ _ h => h) (Or.inl ⟨by rfl, ?_⟩) (by assumption) ?_; rotate_left; focus ((intro W' hSw; (try dsimp only at hSw); go_simp); try with_reducible rfl)) | refine wpAnyH_take (i := 49) (oi := { dst := some 87, op := Op.pick (Operand.tmp 76) (Operand.const (Value.bool true)) (Operand.tmp 86), type := 4, pos := "law.go:59", after := #[{ on := 38, ground := Ground.data }, { on := 48, ground := Ground.data }], guard := none }) (v := undef) rfl (by kernel_rfl) (by kernel_rfl) (by kernel_rfl) (fun _ _ _ h => h) (Or.inr ⟨by rfl, rfl⟩) (by assumption) ?_
          (try simp only [Act.put, List.setIfInBounds_toArray, List.set_cons_zero, List.set_cons_succ])
          refine wpAnyH_done (by kernel_rfl) ?_ _
          go_wp2_with fail
          go_meet
          case rel => exact ⟨rfl, hj12.bel, fun b o hm => hj12.keep b o (by simp at hm; simp [hm])⟩
      case rest =>
        obtain ⟨rfl, hbc, hkc⟩ := hcut
        obtain ⟨c0, c1, c2, c3, c4, c5, c6, -⟩ := cmd_cells (r := c) (p := .slice pa c.pr.length pc) (d := .slice da c.dr.length dc) (t := 24) (hkc w.heap.size _ (by simp))
        have hNw : w.heap.size < wc.heap.size := World.block_lt_of_cell? wc ⟨w.heap.size, 0, none⟩ c0
        have HBC := Lib.hid hbc
        have HKC := Lib.hid hkc
        clear hbc hkc hge hgbv hj7
        go_upto_region 12 with (go_at_call 17; refine (trim_lit HIN.out HBC.out).mono ?_; rintro e V1 ⟨py, dy, rfl, sy, ty, h1⟩; obtain ⟨pya, pyc, rfl⟩ := sy.slice; obtain ⟨dya, dyc, rfl⟩ := ty.slice; have SY := Lib.hid sy; have TY := Lib.hid ty; have HV1 := Lib.hid h1; clear sy ty h1)
        have hbV2 := bel_alloc (bel_next HBC.out HV1.out) (.cells #[.int .i64 c.trim.kind, .int .i64 c.trim.id, .int .i64 c.trim.n, .bool c.trim.good, .slice pya c.trim.pr.length pyc, .slice dya c.trim.dr.length dyc, .string c.trim.data] 24)
        have hkV2 := (HKC.out.below HV1.out).new (.cells #[.int .i64 c.trim.kind, .int .i64 c.trim.id, .int .i64 c.trim.n, .bool c.trim.good, .slice pya c.trim.pr.length pyc, .slice dya c.trim.dr.length dyc, .string c.trim.data] 24)
        have hsV2 := SY.out.below ((Below.refl _ V1).alloc (Nat.le_refl _) (.cells #[.int .i64 c.trim.kind, .int .i64 c.trim.id, .int .i64 c.trim.n, .bool c.trim.good, .slice pya c.trim.pr.length pyc, .slice dya c.trim.dr.length dyc, .string c.trim.data] 24)) (Nat.le_refl _) (Nat.le_refl _)
        have htV2 := TY.out.below ((Below.refl _ V1).alloc (Nat.le_refl _) (.cells #[.int .i64 c.trim.kind, .int .i64 c.trim.id, .int .i64 c.trim.n, .bool c.trim.good, .slice pya c.trim.pr.length pyc, .slice dya c.trim.dr.length dyc, .string c.trim.data] 24)) (Nat.le_refl _) (Nat.le_refl _)
        have hszV2 : (V1.alloc (.cells #[.int .i64 c.trim.kind, .int .i64 c.trim.id, .int .i64 c.trim.n, .bool c.trim.good, .slice pya c.trim.pr.length pyc, .slice dya c.trim.dr.length dyc, .string c.trim.data] 24)).heap.size = V1.heap.size + 1 := by simp
        have hNV1 : w.heap.size < V1.heap.size := Nat.lt_of_lt_of_le hNw HV1.out.size
        generalize V1.alloc (.cells #[.int .i64 c.trim.kind, .int .i64 c.trim.id, .int .i64 c.trim.n, .bool c.trim.good, .slice pya c.trim.pr.length pyc, .slice dya c.trim.dr.length dyc, .string c.trim.data] 24) = V2 at hbV2 hkV2 hsV2 htV2 hszV2 ⊢
        generalize V1.heap.size = yb at hkV2 hsV2 htV2 hszV2 hNV1 ⊢
        obtain ⟨e0, e1, e2, e3, e4, e5, e6, -⟩ := cmd_cells (r := c) (p := .slice pa c.pr.length pc) (d := .slice da c.dr.length dc) (t := 24) (hkV2 w.heap.size _ (by simp))
        have HBV2 := Lib.hid hbV2
        have HKV2 := Lib.hid hkV2
        have HSV2 := Lib.hid hsV2
        have HTV2 := Lib.hid htV2
        have HSZ2 := Lib.hid hszV2
        clear c0 c1 c2 c3 c4 c5 c6 hbV2 hkV2 hsV2 htV2 hszV2
        by_cases hk13 : 1 ≤ c.kind ∧ c.kind ≤ 13
        · have hne := nameB_full c.kind hk13
          have hn := refname_calls c.kind
          obtain ⟨nb, hnb⟩ : ∃ nb, nameB c.kind = nb := ⟨_, rfl⟩
          rw [hnb] at hne hn
          have hne2 : nb.toList.isEmpty = false := by simpa using hne
          have HN := Lib.hid hn
          have HK13 := Lib.hid hk13
          clear hne hnb hn hk13
          go_upto_region 16 with (first | (go_at_call 18; refine (has_calls c.kind _).mono ?_; rintro e V3 ⟨rfl, h3⟩; have HB3' := Lib.hid (bel_next HBV2.out h3); have hk3 := HKV2.out.below h3; have hl3 := h3.size; have S3 := Lib.hid (HSV2.out.below (h3.mono (by have := HSZ2.out; omega)) (Nat.le_refl _) (Nat.le_refl _)); have T3 := Lib.hid (HTV2.out.below (h3.mono (by have := HSZ2.out; omega)) (Nat.le_refl _) (Nat.le_refl _)); obtain ⟨d0, d1, d2, d3, d4, d5, d6, -⟩ := cmd_cells (r := c) (p := .slice pa c.pr.length pc) (d := .slice da c.dr.length dc) (t := 24) (hk3 w.heap.size _ (by simp)); have hNV3 : w.heap.size < V3.heap.size := World.block_lt_of_cell? V3 ⟨w.heap.size, 0, none⟩ d0; have K3 := Lib.hid hk3; clear h3 hk3) | (go_at_call 13; refine (HN.out _).mono ?_; rintro e V4 ⟨rfl, h4⟩; have hk4 := (K3.out.below ((Below.refl _ V3).alloc (Nat.le_refl _) _)).below h4; have hw4 := (h4.block V3.heap.size (by simp)).trans (heap_alloc_new V3 (.cells (Cmd.zero.vals (.slice none 0 0) (.slice none 0 0)) 27)); obtain ⟨g0, g1, g2, g3, g4, g5, g6, -⟩ := cmd_cells (r := c) (p := .slice pa c.pr.length pc) (d := .slice da c.dr.length dc) (t := 24) (hk4 w.heap.size _ (by simp)); obtain ⟨z0, z1, z2, z3, z4, z5, z6, zf⟩ := cmd_cells hw4; have zf0 := zf 0; have HK4 := Lib.hid hk4; have HW4 := Lib.hid hw4; have H4 := Lib.hid h4; clear h4 hk4 hw4 zf))
          have hL0 : LI w c (.slice pa c.pr.length pc) (.slice da c.dr.length dc) yb V3.heap.size (.slice pya c.trim.pr.length pyc) (.slice dya c.trim.dr.length dyc) (wantF c []) (.slice none 0 0) (.slice none 0 0) (V4.setCell ⟨V3.heap.size, 0, none⟩ (.int .i64 c.kind)) := by
            have hs3 := V3.heap.size
            have hbA : Below w.heap.size w V4 := bel_next (bel_alloc HB3'.out _) H4.out
            have hsz2 := HSZ2.out
            have hmv : ∀ k, k < V3.heap.size → V4.heap[k]? = V3.heap[k]? := fun k hk => (H4.out.block k (by simp; omega)).trans (Below.heap_alloc _ _ _ hk)
            have h0 : LI w c (.slice pa c.pr.length pc) (.slice da c.dr.length dc) yb V3.heap.size (.slice pya c.trim.pr.length pyc) (.slice dya c.trim.dr.length dyc) Cmd.zero (.slice none 0 0) (.slice none 0 0) V4 := by
              refine ⟨hbA, fun b o hm => HK4.out b o ?_, HW4.out, S3.out.move (Nat.le_refl _) (Nat.le_refl _) (fun k _ hk => hmv k (by omega)), T3.out.move (Nat.le_refl _) (Nat.le_refl _) (fun k _ hk => hmv k (by omega)), ⟨hNV1, by omega⟩, .inr ⟨rfl, rfl⟩, .inr ⟨rfl, rfl⟩⟩
              simp only [List.mem_cons, List.not_mem_nil, or_false] at hm ⊢
              rcases hm with h | h
              · exact .inr h
              · exact .inl h
            exact h0.set 0 (.int .i64 c.kind) (wantF c []) _ _ rfl (.inr ⟨rfl, rfl⟩) (.inr ⟨rfl, rfl⟩)
          have hlet := has_letters c.kind
          have hhs := has_size c.kind
          have hfs := has_fields c.kind
          generalize V4.setCell ⟨V3.heap.size, 0, none⟩ (.int .i64 c.kind) = V5 at hL0 ⊢
          generalize V3.heap.size = wb at hL0 ⊢
          generalize hasB c.kind = H at hlet hhs hfs ⊢
          have HL0 := Lib.hid hL0
          have HLET := Lib.hid hlet
          have HFS := Lib.hid hfs
          have hH : (H.size : Int) ≤ 4 := by omega
          clear hL0 hlet hhs hfs d0 d1 d2 d3 d4 d5 d6 g0 g1 g2 g3 g4 g5 g6 z0 z1 z2 z3 z4 z5 z6 zf0 e0 e1 e2 e3 e4 e5 e6
          go_wp2_with fail
          go_loopw [13] (fun i wr => ∃ (j : Nat) (x : Cmd) (pw dw : Value), j ≤ H.size ∧ i = .int .i64 j ∧ wantF c ((H.data.toList.take j).map fieldOf) = x ∧ LI w c (.slice pa c.pr.length pc) (.slice da c.dr.length dc) yb wb (.slice pya c.trim.pr.length pyc) (.slice dya c.trim.dr.length dyc) x pw dw wr) (fun i _ => H.size - (intOf i).toNat)
          case atStart => exact ⟨0, _, _, _, by omega, rfl, rfl, HL0.out⟩
          case round =>
            obtain ⟨j, x, pw, dw, hj, rfl, hx, hR⟩ := hrel
            have HX := Lib.hid hx
            have HRR := Lib.hid hR
            obtain ⟨c0, c1, c2, c3, c4, c5, c6, -⟩ := cmd_cells (r := c) (p := .slice pa c.pr.length pc) (d := .slice da c.dr.length dc) (t := 24) (hR.keep w.heap.size _ (by simp))
            obtain ⟨z0, z1, z2, z3, z4, z5, z6, zf⟩ := cmd_cells hR.want
            have zf1 := zf 1
            have zf2 := zf 2
            have zf3 := zf 3
            have zf4 := zf 4
            have zf5 := zf 5
            have zf6 := zf 6
            clear zf hx
            by_cases hlt : j < H.size
            · have hl6 := HLET.out j hlt
              rcases hl6 with hln | hln | hln | hln | hln | hln
              · have hmap := take_map H j hlt 1 (fieldOf_toNat _ _ hln (by decide))
                have HM := Lib.hid hmap
                clear hmap hR
                go_wp2_with fail
                go_roundw
                case rel =>
                  have hR := HRR.out
                  exact ⟨j + 1, { x with id := c.id }, pw, dw, by omega, by go_num, by rw [HM.out, wantF_snoc, HX.out]; rfl, hR.set 1 (.int .i64 c.id) { x with id := c.id } pw dw rfl hR.pw hR.dw⟩
                case measure => simp [intOf]; omega
              · have hmap := take_map H j hlt 2 (fieldOf_toNat _ _ hln (by decide))
                have HM := Lib.hid hmap
                clear hmap hR
                go_wp2_with fail
                go_roundw
                case rel =>
                  have hR := HRR.out
                  exact ⟨j + 1, { x with n := c.n }, pw, dw, by omega, by go_num, by rw [HM.out, wantF_snoc, HX.out]; rfl, hR.set 2 (.int .i64 c.n) { x with n := c.n } pw dw rfl hR.pw hR.dw⟩
                case measure => simp [intOf]; omega
              · have hmap := take_map H j hlt 3 (fieldOf_toNat _ _ hln (by decide))
                have HM := Lib.hid hmap
                clear hmap hR
                go_wp2_with fail
                go_roundw
                case rel =>
                  have hR := HRR.out
                  exact ⟨j + 1, { x with good := c.good }, pw, dw, by omega, by go_num, by rw [HM.out, wantF_snoc, HX.out]; rfl, hR.set 3 (.bool c.good) { x with good := c.good } pw dw rfl hR.pw hR.dw⟩
                case measure => simp [intOf]; omega
              · have hmap := take_map H j hlt 4 (fieldOf_toNat _ _ hln (by decide))
                have HM := Lib.hid hmap
                clear hmap hR
                go_wp2_with fail
                go_roundw
                case rel =>
                  have hR := HRR.out
                  exact ⟨j + 1, { x with pr := c.pr }, (.slice pa c.pr.length pc), dw, by omega, by go_num, by rw [HM.out, wantF_snoc, HX.out]; rfl, hR.set 4 ((.slice pa c.pr.length pc)) { x with pr := c.pr } (.slice pa c.pr.length pc) dw rfl (.inl ⟨rfl, rfl⟩) hR.dw⟩
                case measure => simp [intOf]; omega
              · have hmap := take_map H j hlt 5 (fieldOf_toNat _ _ hln (by decide))
                have HM := Lib.hid hmap
                clear hmap hR
                go_wp2_with fail
                go_roundw
                case rel =>
                  have hR := HRR.out
                  exact ⟨j + 1, { x with dr := c.dr }, pw, (.slice da c.dr.length dc), by omega, by go_num, by rw [HM.out, wantF_snoc, HX.out]; rfl, hR.set 5 ((.slice da c.dr.length dc)) { x with dr := c.dr } pw (.slice da c.dr.length dc) rfl hR.pw (.inl ⟨rfl, rfl⟩)⟩
                case measure => simp [intOf]; omega
              · have hmap := take_map H j hlt 6 (fieldOf_toNat _ _ hln (by decide))
                have HM := Lib.hid hmap
                clear hmap hR
                go_wp2_with fail
                go_roundw
                case rel =>
                  have hR := HRR.out
                  exact ⟨j + 1, { x with data := c.data }, pw, dw, by omega, by go_num, by rw [HM.out, wantF_snoc, HX.out]; rfl, hR.set 6 (.string c.data) { x with data := c.data } pw dw rfl hR.pw hR.dw⟩
                case measure => simp [intOf]; omega
            · skip
              obtain rfl : j = H.size := by omega
              have hxt : x = c.trim := by rw [← HX.out, List.take_of_length_le (by simp), HFS.out, wantF_trim c HK13.out]
              subst hxt
              have spw : Sl wr 0 w.heap.size pw c.trim.pr := by
                rcases hR.pw with ⟨h1, h2⟩ | ⟨h1, h2⟩
                · rw [h1, h2]; exact HIN.out.pb hR.bel
                · rw [h1, h2]; exact Sl.nil _ _ _ _ _
              have sdw : Sl wr 0 w.heap.size dw c.trim.dr := by
                rcases hR.dw with ⟨h1, h2⟩ | ⟨h1, h2⟩
                · rw [h1, h2]; exact HIN.out.db hR.bel
                · rw [h1, h2]; exact Sl.nil _ _ _ _ _
              obtain ⟨pwa, pwc, rfl⟩ := spw.slice
              obtain ⟨dwa, dwc, rfl⟩ := sdw.slice
              obtain ⟨y0, y1, y2, y3, y4, y5, y6, -⟩ := cmd_cells (r := c.trim) (p := .slice pya c.trim.pr.length pyc) (d := .slice dya c.trim.dr.length dyc) (t := 24) (hR.keep yb _ (by simp))
              have SPW := Lib.hid spw
              have SDW := Lib.hid sdw
              obtain ⟨C, pk, pb, hkb, hpa, hpb⟩ := parse_both s hl2
              have HPA := Lib.hid hpa
              have HPB := Lib.hid hpb
              clear hR spw sdw hpa hpb hlt
              go_upto_region 35 with (first | (go_at_call 14; refine (alike_self HRR.out.sy HRR.out.ty SPW.out SDW.out).mono ?_; rintro e V6 ⟨rfl, h6⟩; have HB6' := Lib.hid (bel_next HRR.out.bel h6); clear h6) | (go_at_call 19; refine (HPA.out _).mono ?_; rintro e V7 ⟨pz, dz, rfl, sz, tz, h7⟩; obtain ⟨pza, pzc, rfl⟩ := sz.slice; obtain ⟨dza, dzc, rfl⟩ := tz.slice; have SZ := Lib.hid sz; have TZ := Lib.hid tz; have HB7' := Lib.hid (bel_next HB6'.out h7); clear h7 sz tz) | (go_at_call 20; refine (HPB.out _).mono ?_; rintro e V8 ⟨pv, dv, rfl, sv, tv, h8⟩; obtain ⟨pva, pvc, rfl⟩ := sv.slice; obtain ⟨dva, dvc, rfl⟩ := tv.slice; have SV := Lib.hid sv; have TV := Lib.hid tv; have HB8' := Lib.hid (bel_next (bel_alloc HB7'.out _) h8); have hz8 := (h8.block V7.heap.size (by simp)).trans (heap_alloc_new V7 _); have hs8 := h8.size; have SZ8 := Lib.hid (SZ.out.below (((Below.refl _ V7).alloc (Nat.le_refl _) _).trans (h8.mono (by simp))) (Nat.le_refl _) (Nat.le_refl _)); have TZ8 := Lib.hid (TZ.out.below (((Below.refl _ V7).alloc (Nat.le_refl _) _).trans (h8.mono (by simp))) (Nat.le_refl _) (Nat.le_refl _)); have HZ8 := Lib.hid hz8; clear h8 hz8 sv tv))
              have hz9 := (Below.heap_alloc V8 (.cells #[.int .i64 C.kind, .int .i64 C.id, .int .i64 C.n, .bool C.good, .slice pva C.pr.length pvc, .slice dva C.dr.length dvc, .string C.data] 27) V7.heap.size (by simp at hs8; omega)).trans HZ8.out
              have hv9 := heap_alloc_new V8 (.cells #[.int .i64 C.kind, .int .i64 C.id, .int .i64 C.n, .bool C.good, .slice pva C.pr.length pvc, .slice dva C.dr.length dvc, .string C.data] 27)
              have hb9 := bel_alloc HB8'.out (.cells #[.int .i64 C.kind, .int .i64 C.id, .int .i64 C.n, .bool C.good, .slice pva C.pr.length pvc, .slice dva C.dr.length dvc, .string C.data] 27)
              have hle9 : V7.heap.size ≤ V8.heap.size := by simp at hs8; omega
              have a1 := SZ8.out.below ((Below.refl V7.heap.size V8).alloc hle9 (.cells #[.int .i64 C.kind, .int .i64 C.id, .int .i64 C.n, .bool C.good, .slice pva C.pr.length pvc, .slice dva C.dr.length dvc, .string C.data] 27)) (Nat.le_refl _) (Nat.le_refl _)
              have a2 := TZ8.out.below ((Below.refl V7.heap.size V8).alloc hle9 (.cells #[.int .i64 C.kind, .int .i64 C.id, .int .i64 C.n, .bool C.good, .slice pva C.pr.length pvc, .slice dva C.dr.length dvc, .string C.data] 27)) (Nat.le_refl _) (Nat.le_refl _)
              have a3 := SV.out.below ((Below.refl V8.heap.size V8).alloc (Nat.le_refl _) (.cells #[.int .i64 C.kind, .int .i64 C.id, .int .i64 C.n, .bool C.good, .slice pva C.pr.length pvc, .slice dva C.dr.length dvc, .string C.data] 27)) (Nat.le_refl _) (Nat.le_refl _)
              have a4 := TV.out.below ((Below.refl V8.heap.size V8).alloc (Nat.le_refl _) (.cells #[.int .i64 C.kind, .int .i64 C.id, .int .i64 C.n, .bool C.good, .slice pva C.pr.length pvc, .slice dva C.dr.length dvc, .string C.data] 27)) (Nat.le_refl _) (Nat.le_refl _)
              generalize V8.alloc (.cells #[.int .i64 C.kind, .int .i64 C.id, .int .i64 C.n, .bool C.good, .slice pva C.pr.length pvc, .slice dva C.dr.length dvc, .string C.data] 27) = V9 at hz9 hv9 hb9 a1 a2 a3 a4 ⊢
              obtain ⟨m0, m1, m2, m3, m4, m5, m6, -⟩ := cmd_cells (r := C) (p := .slice pza C.pr.length pzc) (d := .slice dza C.dr.length dzc) (t := 24) hz9
              obtain ⟨n0, n1, n2, n3, n4, n5, n6, -⟩ := cmd_cells (r := C) (p := .slice pva C.pr.length pvc) (d := .slice dva C.dr.length dvc) (t := 27) hv9
              have hal := alike_self a1 a2 a3 a4
              have HAL := Lib.hid hal
              have HB9 := Lib.hid hb9
              clear hz9 hv9 hb9 a1 a2 a3 a4 hal c0 c1 c2 c3 c4 c5 c6 z0 z1 z2 z3 z4 z5 z6 zf1 zf2 zf3 zf4 zf5 zf6 y0 y1 y2 y3 y4 y5 y6 hs8 hle9
              rcases hkb with ⟨rfl, rfl⟩ | ⟨rfl, rfl⟩
              all_goals
                go_wp2_with (go_at_call 14; refine HAL.out.mono ?_; rintro e V10 ⟨rfl, h10⟩; have H10 := Lib.hid h10; clear h10)
                go_ret
                exact ⟨rfl, bel_next HB9.out H10.out⟩
        · have hn := refname_calls c.kind
          rw [nameB_empty c.kind (by omega)] at hn
          have HN := Lib.hid hn
          have HK13 := Lib.hid hk13
          clear hn hk13
          go_upto_region 16 with (first | (go_at_call 18; refine (has_calls c.kind _).mono ?_; rintro e V3 ⟨rfl, h3⟩; have HB3' := Lib.hid (bel_next HBV2.out h3); have hk3 := HKV2.out.below h3; have hl3 := h3.size; have S3 := Lib.hid (HSV2.out.below (h3.mono (by have := HSZ2.out; omega)) (Nat.le_refl _) (Nat.le_refl _)); have T3 := Lib.hid (HTV2.out.below (h3.mono (by have := HSZ2.out; omega)) (Nat.le_refl _) (Nat.le_refl _)); obtain ⟨d0, d1, d2, d3, d4, d5, d6, -⟩ := cmd_cells (r := c) (p := .slice pa c.pr.length pc) (d := .slice da c.dr.length dc) (t := 24) (hk3 w.heap.size _ (by simp)); have hNV3 : w.heap.size < V3.heap.size := World.block_lt_of_cell? V3 ⟨w.heap.size, 0, none⟩ d0; have K3 := Lib.hid hk3; clear h3 hk3) | (go_at_call 13; refine (HN.out _).mono ?_; rintro e V4 ⟨rfl, h4⟩; have hk4 := (K3.out.below ((Below.refl _ V3).alloc (Nat.le_refl _) _)).below h4; have hw4 := (h4.block V3.heap.size (by simp)).trans (heap_alloc_new V3 (.cells (Cmd.zero.vals (.slice none 0 0) (.slice none 0 0)) 27)); obtain ⟨g0, g1, g2, g3, g4, g5, g6, -⟩ := cmd_cells (r := c) (p := .slice pa c.pr.length pc) (d := .slice da c.dr.length dc) (t := 24) (hk4 w.heap.size _ (by simp)); obtain ⟨z0, z1, z2, z3, z4, z5, z6, zf⟩ := cmd_cells hw4; have zf0 := zf 0; have HK4 := Lib.hid hk4; have HW4 := Lib.hid hw4; have H4 := Lib.hid h4; clear h4 hk4 hw4 zf))
          have hL0 : LI w c (.slice pa c.pr.length pc) (.slice da c.dr.length dc) yb V3.heap.size (.slice pya c.trim.pr.length pyc) (.slice dya c.trim.dr.length dyc) Cmd.zero (.slice none 0 0) (.slice none 0 0) V4 := by
            have hs3 := V3.heap.size
            have hbA : Below w.heap.size w V4 := bel_next (bel_alloc HB3'.out _) H4.out
            have hsz2 := HSZ2.out
            have hmv : ∀ k, k < V3.heap.size → V4.heap[k]? = V3.heap[k]? := fun k hk => (H4.out.block k (by simp; omega)).trans (Below.heap_alloc _ _ _ hk)
            have h0 : LI w c (.slice pa c.pr.length pc) (.slice da c.dr.length dc) yb V3.heap.size (.slice pya c.trim.pr.length pyc) (.slice dya c.trim.dr.length dyc) Cmd.zero (.slice none 0 0) (.slice none 0 0) V4 := by
              refine ⟨hbA, fun b o hm => HK4.out b o ?_, HW4.out, S3.out.move (Nat.le_refl _) (Nat.le_refl _) (fun k _ hk => hmv k (by omega)), T3.out.move (Nat.le_refl _) (Nat.le_refl _) (fun k _ hk => hmv k (by omega)), ⟨hNV1, by omega⟩, .inr ⟨rfl, rfl⟩, .inr ⟨rfl, rfl⟩⟩
              simp only [List.mem_cons, List.not_mem_nil, or_false] at hm ⊢
              rcases hm with h | h
              · exact .inr h
              · exact .inl h
            exact h0
          have hhs : (hasB c.kind).size = 0 := by rw [hasB_none c.kind HK13.out]; rfl
          generalize V3.heap.size = wb at hL0 ⊢
          generalize hasB c.kind = H at hhs ⊢
          have HL0 := Lib.hid hL0
          have HH := Lib.hid hhs
          have hH : (H.size : Int) ≤ 4 := by omega
          clear hL0 hhs d0 d1 d2 d3 d4 d5 d6 g0 g1 g2 g3 g4 g5 g6 z0 z1 z2 z3 z4 z5 z6 zf0 e0 e1 e2 e3 e4 e5 e6
          go_wp2_with fail
          go_loopw [13] (fun i wr => ∃ (j : Nat) (x : Cmd) (pw dw : Value), j ≤ H.size ∧ i = .int .i64 j ∧ Cmd.zero = x ∧ LI w c (.slice pa c.pr.length pc) (.slice da c.dr.length dc) yb wb (.slice pya c.trim.pr.length pyc) (.slice dya c.trim.dr.length dyc) x pw dw wr) (fun i _ => H.size - (intOf i).toNat)
          case atStart => exact ⟨0, _, _, _, by omega, rfl, rfl, HL0.out⟩
          case round =>
            obtain ⟨j, x, pw, dw, hj, rfl, hx, hR⟩ := hrel
            have HX := Lib.hid hx
            have HRR := Lib.hid hR
            obtain ⟨c0, c1, c2, c3, c4, c5, c6, -⟩ := cmd_cells (r := c) (p := .slice pa c.pr.length pc) (d := .slice da c.dr.length dc) (t := 24) (hR.keep w.heap.size _ (by simp))
            obtain ⟨z0, z1, z2, z3, z4, z5, z6, zf⟩ := cmd_cells hR.want
            have zf1 := zf 1
            have zf2 := zf 2
            have zf3 := zf 3
            have zf4 := zf 4
            have zf5 := zf 5
            have zf6 := zf 6
            clear zf hx
            by_cases hlt : j < H.size
            · exact absurd hlt (by have := HH.out; omega)
            · skip
              obtain rfl : j = H.size := by omega
              have hxt : x = c.trim := by rw [trim_zero c HK13.out, ← HX.out]
              subst hxt
              have spw : Sl wr 0 w.heap.size pw c.trim.pr := by
                rcases hR.pw with ⟨h1, h2⟩ | ⟨h1, h2⟩
                · rw [h1, h2]; exact HIN.out.pb hR.bel
                · rw [h1, h2]; exact Sl.nil _ _ _ _ _
              have sdw : Sl wr 0 w.heap.size dw c.trim.dr := by
                rcases hR.dw with ⟨h1, h2⟩ | ⟨h1, h2⟩
                · rw [h1, h2]; exact HIN.out.db hR.bel
                · rw [h1, h2]; exact Sl.nil _ _ _ _ _
              obtain ⟨pwa, pwc, rfl⟩ := spw.slice
              obtain ⟨dwa, dwc, rfl⟩ := sdw.slice
              obtain ⟨y0, y1, y2, y3, y4, y5, y6, -⟩ := cmd_cells (r := c.trim) (p := .slice pya c.trim.pr.length pyc) (d := .slice dya c.trim.dr.length dyc) (t := 24) (hR.keep yb _ (by simp))
              have SPW := Lib.hid spw
              have SDW := Lib.hid sdw
              obtain ⟨C, pk, pb, hkb, hpa, hpb⟩ := parse_both s hl2
              have HPA := Lib.hid hpa
              have HPB := Lib.hid hpb
              clear hR spw sdw hpa hpb hlt
              go_upto_region 35 with (first | (go_at_call 14; refine (alike_self HRR.out.sy HRR.out.ty SPW.out SDW.out).mono ?_; rintro e V6 ⟨rfl, h6⟩; have HB6' := Lib.hid (bel_next HRR.out.bel h6); clear h6) | (go_at_call 19; refine (HPA.out _).mono ?_; rintro e V7 ⟨pz, dz, rfl, sz, tz, h7⟩; obtain ⟨pza, pzc, rfl⟩ := sz.slice; obtain ⟨dza, dzc, rfl⟩ := tz.slice; have SZ := Lib.hid sz; have TZ := Lib.hid tz; have HB7' := Lib.hid (bel_next HB6'.out h7); clear h7 sz tz) | (go_at_call 20; refine (HPB.out _).mono ?_; rintro e V8 ⟨pv, dv, rfl, sv, tv, h8⟩; obtain ⟨pva, pvc, rfl⟩ := sv.slice; obtain ⟨dva, dvc, rfl⟩ := tv.slice; have SV := Lib.hid sv; have TV := Lib.hid tv; have HB8' := Lib.hid (bel_next (bel_alloc HB7'.out _) h8); have hz8 := (h8.block V7.heap.size (by simp)).trans (heap_alloc_new V7 _); have hs8 := h8.size; have SZ8 := Lib.hid (SZ.out.below (((Below.refl _ V7).alloc (Nat.le_refl _) _).trans (h8.mono (by simp))) (Nat.le_refl _) (Nat.le_refl _)); have TZ8 := Lib.hid (TZ.out.below (((Below.refl _ V7).alloc (Nat.le_refl _) _).trans (h8.mono (by simp))) (Nat.le_refl _) (Nat.le_refl _)); have HZ8 := Lib.hid hz8; clear h8 hz8 sv tv))
              have hz9 := (Below.heap_alloc V8 (.cells #[.int .i64 C.kind, .int .i64 C.id, .int .i64 C.n, .bool C.good, .slice pva C.pr.length pvc, .slice dva C.dr.length dvc, .string C.data] 27) V7.heap.size (by simp at hs8; omega)).trans HZ8.out
              have hv9 := heap_alloc_new V8 (.cells #[.int .i64 C.kind, .int .i64 C.id, .int .i64 C.n, .bool C.good, .slice pva C.pr.length pvc, .slice dva C.dr.length dvc, .string C.data] 27)
              have hb9 := bel_alloc HB8'.out (.cells #[.int .i64 C.kind, .int .i64 C.id, .int .i64 C.n, .bool C.good, .slice pva C.pr.length pvc, .slice dva C.dr.length dvc, .string C.data] 27)
              have hle9 : V7.heap.size ≤ V8.heap.size := by simp at hs8; omega
              have a1 := SZ8.out.below ((Below.refl V7.heap.size V8).alloc hle9 (.cells #[.int .i64 C.kind, .int .i64 C.id, .int .i64 C.n, .bool C.good, .slice pva C.pr.length pvc, .slice dva C.dr.length dvc, .string C.data] 27)) (Nat.le_refl _) (Nat.le_refl _)
              have a2 := TZ8.out.below ((Below.refl V7.heap.size V8).alloc hle9 (.cells #[.int .i64 C.kind, .int .i64 C.id, .int .i64 C.n, .bool C.good, .slice pva C.pr.length pvc, .slice dva C.dr.length dvc, .string C.data] 27)) (Nat.le_refl _) (Nat.le_refl _)
              have a3 := SV.out.below ((Below.refl V8.heap.size V8).alloc (Nat.le_refl _) (.cells #[.int .i64 C.kind, .int .i64 C.id, .int .i64 C.n, .bool C.good, .slice pva C.pr.length pvc, .slice dva C.dr.length dvc, .string C.data] 27)) (Nat.le_refl _) (Nat.le_refl _)
              have a4 := TV.out.below ((Below.refl V8.heap.size V8).alloc (Nat.le_refl _) (.cells #[.int .i64 C.kind, .int .i64 C.id, .int .i64 C.n, .bool C.good, .slice pva C.pr.length pvc, .slice dva C.dr.length dvc, .string C.data] 27)) (Nat.le_refl _) (Nat.le_refl _)
              generalize V8.alloc (.cells #[.int .i64 C.kind, .int .i64 C.id, .int .i64 C.n, .bool C.good, .slice pva C.pr.length pvc, .slice dva C.dr.length dvc, .string C.data] 27) = V9 at hz9 hv9 hb9 a1 a2 a3 a4 ⊢
              obtain ⟨m0, m1, m2, m3, m4, m5, m6, -⟩ := cmd_cells (r := C) (p := .slice pza C.pr.length pzc) (d := .slice dza C.dr.length dzc) (t := 24) hz9
              obtain ⟨n0, n1, n2, n3, n4, n5, n6, -⟩ := cmd_cells (r := C) (p := .slice pva C.pr.length pvc) (d := .slice dva C.dr.length dvc) (t := 27) hv9
              have hal := alike_self a1 a2 a3 a4
              have HAL := Lib.hid hal
              have HB9 := Lib.hid hb9
              clear hz9 hv9 hb9 a1 a2 a3 a4 hal c0 c1 c2 c3 c4 c5 c6 z0 z1 z2 z3 z4 z5 z6 zf1 zf2 zf3 zf4 zf5 zf6 y0 y1 y2 y3 y4 y5 y6 hs8 hle9
              rcases hkb with ⟨rfl, rfl⟩ | ⟨rfl, rfl⟩
              all_goals
                go_wp2_with (go_at_call 14; refine HAL.out.mono ?_; rintro e V10 ⟨rfl, h10⟩; have H10 := Lib.hid h10; clear h10)
                go_ret
                exact ⟨rfl, bel_next HB9.out H10.out⟩
end Go.Proofs.Ytbedamkeeongfaa
