/- Words for the walk of OrderBack: fit in the walk's spelling, what a fit command is, the callees at any world that keeps both commands. -/
import Derived.Test.YtbedamkeeongfaaQc
import Derived.Test.YtbedamkeeongfaaPe
namespace Go.Proofs.Ytbedamkeeongfaa
open Go.RowKit Go.Proofs.Ytbedamkeeongfaa.Mem
set_option linter.unusedVariables false

theorem trim_small {c : Cmd} (h : greatB c = false) : (c.trim.pr.length : Int) ≤ 40 ∧ (c.trim.dr.length : Int) ≤ 40 ∧ (c.trim.data.size : Int) ≤ 1100 := by
  simp only [greatB, Bool.or_eq_false_iff, decide_eq_false_iff_not] at h
  unfold Cmd.trim
  split
  · refine ⟨?_, ?_, ?_⟩ <;> (simp only; split) <;> first | omega | (simp; done) | (show ((⟨#[]⟩ : ByteArray).size : Int) ≤ 1100; decide)
  · exact ⟨by decide, by decide, by decide⟩

theorem fit_fits (c : Cmd) : (c.fit.pr.length : Int) ≤ 32 ∧ (c.fit.dr.length : Int) ≤ 32 := by
  constructor <;> (simp only [Cmd.fit, capS, List.length_map, List.length_take]; omega)
theorem capS_in (xs : List Int) : ∀ n ∈ capS xs, -2147483648 ≤ n ∧ n < 2147483648 := by
  intro n hn
  simp only [capS, List.mem_map] at hn
  obtain ⟨m, _, rfl⟩ := hn
  exact sml_in m
theorem sml_zero : sml 0 = 0 := by decide
theorem fit_zero (c : Cmd) (h : ¬ (1 ≤ c.kind ∧ c.kind ≤ 13)) : c.fit.kind = 0 := by
  unfold Cmd.fit Cmd.trim
  simp only [if_neg h]
  rfl
theorem fit_kind (c : Cmd) (h : 1 ≤ c.kind ∧ c.kind ≤ 13) : c.fit.kind = c.kind := by
  unfold Cmd.fit Cmd.trim
  simp only [if_pos h]
theorem fit_good (c : Cmd) (h : 1 ≤ c.kind ∧ c.kind ≤ 13) : goodP c.fit := by
  have hk := fit_kind c h
  have hd : (c.fit.data.size : Int) ≤ 1024 := by
    show ((c.trim.data.extract 0 (min (c.trim.data.size : Int) 1024).toNat).size : Int) ≤ 1024
    rw [ByteArray.size_extract]
    omega
  refine ⟨by rw [hk]; exact h, ?_, (numB_iff _).2 (sml_in _), (numB_iff _).2 (sml_in _), (rowOk_iff _).2 ⟨(fit_fits c).1, capS_in _⟩, (rowOk_iff _).2 ⟨(fit_fits c).2, capS_in _⟩, hd⟩
  unfold Cmd.rest
  rw [hk]
  have hx : c.fit = ⟨c.kind, sml (if 1 ∈ fieldsOf c.kind then c.id else 0), sml (if 2 ∈ fieldsOf c.kind then c.n else 0), if 3 ∈ fieldsOf c.kind then c.good else false, capS (if 4 ∈ fieldsOf c.kind then c.pr else []), capS (if 5 ∈ fieldsOf c.kind then c.dr else []), (if 6 ∈ fieldsOf c.kind then c.data else ⟨#[]⟩).extract 0 (min ((if 6 ∈ fieldsOf c.kind then c.data else ⟨#[]⟩ : ByteArray).size : Int) 1024).toNat⟩ := by
    unfold Cmd.fit Cmd.trim
    simp only [if_pos h]
  rw [hx]
  have hz : capS [] = [] := rfl
  have he : ∀ n, (⟨#[]⟩ : ByteArray).extract 0 n = ⟨#[]⟩ := fun n => oext (by rw [extract_list]; simp)
  simp only [Cmd.mk.injEq, true_and]
  refine ⟨?_, ?_, ?_, ?_, ?_, ?_⟩ <;> split <;> first | rfl | (simp only [sml_zero, hz, he]; done) | (simp [*, sml_zero, hz, he])
theorem fit_bad (c : Cmd) (h : ¬ (1 ≤ c.kind ∧ c.kind ≤ 13)) : ¬ goodP c.fit := fun hg => by
  have := hg.1.1
  rw [fit_zero c h] at this
  omega

theorem fit_lit (c : Cmd) (p d : Value) (W : World) (hp : Sl W 0 W.heap.size p c.pr) (hd : Sl W 0 W.heap.size d c.dr) (hg : greatB c = false) :
    Calls Try.prog 21 #[.agg #[.int .i64 c.kind, .int .i64 c.id, .int .i64 c.n, .bool c.good, p, d, .string c.data]] W fun e w' => ∃ pa pc da dc, e = .returned (.agg #[.int .i64 c.fit.kind, .int .i64 c.fit.id, .int .i64 c.fit.n, .bool c.fit.good, .slice pa c.fit.pr.length pc, .slice da c.fit.dr.length dc, .string c.fit.data]) ∧
      Sl w' 0 w'.heap.size (.slice pa c.fit.pr.length pc) c.fit.pr ∧ Sl w' 0 w'.heap.size (.slice da c.fit.dr.length dc) c.fit.dr ∧ Below W.heap.size W w' := by
  refine (fit_calls c p d 0 W.heap.size W hp hd (Nat.le_refl _) (trim_small hg)).mono ?_
  rintro e w' ⟨p', d', rfl, h1, h2, h3⟩
  obtain ⟨pa, pc, rfl⟩ := h1.slice
  obtain ⟨da, dc, rfl⟩ := h2.slice
  exact ⟨pa, pc, da, dc, rfl, h1.move (Nat.zero_le _) (Nat.le_refl _) (fun _ _ _ => rfl), h2.move (Nat.zero_le _) (Nat.le_refl _) (fun _ _ _ => rfl), h3⟩

/-- both commands in memory -/
structure Two (x y : Cmd) (px dx py dy : Value) (bx by_ : Nat) (W : World) : Prop where
  bx : W.heap[bx]? = some (.cells (x.vals px dx) 24 (0, 0))
  by_ : W.heap[by_]? = some (.cells (y.vals py dy) 24 (0, 0))
  sx : Sl W 0 W.heap.size px x.pr
  tx : Sl W 0 W.heap.size dx x.dr
  sy : Sl W 0 W.heap.size py y.pr
  ty : Sl W 0 W.heap.size dy y.dr
section
variable {x y : Cmd} {px dx py dy : Value} {bx by_ : Nat} {W W' : World}
theorem Two.below (h : Two x y px dx py dy bx by_ W) (hb : Below W.heap.size W W') : Two x y px dx py dy bx by_ W' :=
  ⟨(hb.block _ (lt_of_block h.bx)).trans h.bx, (hb.block _ (lt_of_block h.by_)).trans h.by_, h.sx.below hb (Nat.le_refl _) hb.size, h.tx.below hb (Nat.le_refl _) hb.size, h.sy.below hb (Nat.le_refl _) hb.size, h.ty.below hb (Nat.le_refl _) hb.size⟩
theorem good_is (c : Cmd) (p d : Value) (g : Bool) (hg : g = true ↔ goodP c) (W : World) (hp : Sl W 0 W.heap.size p c.pr) (hd : Sl W 0 W.heap.size d c.dr) :
    Calls Try.prog 11 #[.agg #[.int .i64 c.kind, .int .i64 c.id, .int .i64 c.n, .bool c.good, p, d, .string c.data]] W fun e w' => e = .returned (.bool g) ∧ Below W.heap.size W w' :=
  (good_calls c p d 0 W.heap.size W hp hd (Nat.le_refl _)).mono fun e w' ⟨r, h1, h2, h3⟩ => ⟨by rw [h1, show r = g by rw [Bool.eq_iff_iff, h2, hg]], h3⟩
theorem same_is (c c' : Cmd) (p d p' d' : Value) (q : Bool) (hq : q = true ↔ c = c') (W : World) {A1 B1 A2 B2 A3 B3 A4 B4 : Nat} (h1 : Sl W A1 B1 p c.pr) (h2 : Sl W A2 B2 d c.dr) (h3 : Sl W A3 B3 p' c'.pr) (h4 : Sl W A4 B4 d' c'.dr) :
    Calls Try.prog 15 #[.agg #[.int .i64 c.kind, .int .i64 c.id, .int .i64 c.n, .bool c.good, p, d, .string c.data], .agg #[.int .i64 c'.kind, .int .i64 c'.id, .int .i64 c'.n, .bool c'.good, p', d', .string c'.data]] W fun e w' => e = .returned (.bool q) ∧ Below W.heap.size W w' :=
  (same_calls c c' p d p' d' A1 B1 A2 B2 A3 B3 A4 B4 W h1 h2 h3 h4).mono fun e w' ⟨r, h1, h2, h3⟩ => ⟨by rw [h1, show r = q by rw [Bool.eq_iff_iff, h2, hq]], h3⟩
theorem bytes_bs (c : Cmd) (p d : Value) (W : World) (hp : Sl W 0 W.heap.size p c.pr) (hd : Sl W 0 W.heap.size d c.dr) (hg : goodP c) :
    Calls Try.prog 9 #[.agg #[.int .i64 c.kind, .int .i64 c.id, .int .i64 c.n, .bool c.good, p, d, .string c.data]] W fun e w' => e = .returned (.tuple #[.string (bs (enc c)), .int .i64 0]) ∧ Below W.heap.size W w' :=
  bytes_good c p d 0 W.heap.size W hp hd (Nat.le_refl _) hg
theorem good_or (c : Cmd) (h1 : ¬ (1 ≤ c.kind ∧ c.kind ≤ 13) → c.fit.kind = 0) : (goodP c.fit ∧ (c.fit.kind == 0) = false) ∨ (¬ goodP c.fit ∧ (c.fit.kind == 0) = true) := by
  by_cases h : 1 ≤ c.kind ∧ c.kind ≤ 13
  · refine .inl ⟨fit_good c h, ?_⟩
    rw [fit_kind c h]
    simp
    omega
  · refine .inr ⟨fit_bad c h, ?_⟩
    rw [fit_zero c h]
    rfl
theorem enc_beq (x y : Cmd) (hx : goodP x) (hy : goodP y) (q : Bool) (hq : q = true ↔ x = y) : ((bs (enc x)).toList == (bs (enc y)).toList) = q := by
  cases q with
  | true =>
    obtain rfl := hq.1 rfl
    simp
  | false => exact o_ne (fun h => by have := hq.2 ((enc_inj hx hy).1 h); simp at this)
/-- the block of x, y, x -/
def blk3 (x y : Cmd) (px dx py dy : Value) : Array Value := #[.int .i64 x.kind, .int .i64 x.id, .int .i64 x.n, .bool x.good, px, dx, .string x.data, .int .i64 y.kind, .int .i64 y.id, .int .i64 y.n, .bool y.good, py, dy, .string y.data, .int .i64 x.kind, .int .i64 x.id, .int .i64 x.n, .bool x.good, px, dx, .string x.data]
theorem coms3 (h : Two x y px dx py dy bx by_ W) : ComsAt (W.alloc (.cells (blk3 x y px dx py dy) 24)) 0 (W.alloc (.cells (blk3 x y px dx py dy) 24)).heap.size W.heap.size 0 [x, y, x] := by
  have hal : Below W.heap.size W (W.alloc (.cells (blk3 x y px dx py dy) 24)) := (Below.refl _ _).alloc (Nat.le_refl _) _
  have hc : ∀ j v, (blk3 x y px dx py dy)[j]? = some v → (W.alloc (.cells (blk3 x y px dx py dy) 24)).cell? ⟨W.heap.size, j, none⟩ = some v := fun j v hj => by
    rw [World.cell?_alloc_at _ _ _ _ rfl]
    exact hj
  refine ⟨by simp, fun i c hi => ?_⟩
  match i, hi with
  | 0, hi =>
    simp at hi; subst hi
    exact ⟨px, dx, h.sx.below hal (Nat.le_refl _) hal.size, h.tx.below hal (Nat.le_refl _) hal.size, hc _ _ rfl, hc _ _ rfl, hc _ _ rfl, hc _ _ rfl, hc _ _ rfl, hc _ _ rfl, hc _ _ rfl⟩
  | 1, hi =>
    simp at hi; subst hi
    exact ⟨py, dy, h.sy.below hal (Nat.le_refl _) hal.size, h.ty.below hal (Nat.le_refl _) hal.size, hc _ _ rfl, hc _ _ rfl, hc _ _ rfl, hc _ _ rfl, hc _ _ rfl, hc _ _ rfl, hc _ _ rfl⟩
  | 2, hi =>
    simp at hi; subst hi
    exact ⟨px, dx, h.sx.below hal (Nat.le_refl _) hal.size, h.tx.below hal (Nat.le_refl _) hal.size, hc _ _ rfl, hc _ _ rfl, hc _ _ rfl, hc _ _ rfl, hc _ _ rfl, hc _ _ rfl, hc _ _ rfl⟩
  | i + 3, hi => simp at hi
theorem all3 (h : Two x y px dx py dy bx by_ W) (hx : goodP x) (hy : goodP y) :
    Calls Try.prog 22 #[.slice (some ⟨W.heap.size, 0, none⟩) 3 3] (W.alloc (.cells #[.int .i64 x.kind, .int .i64 x.id, .int .i64 x.n, .bool x.good, px, dx, .string x.data, .int .i64 y.kind, .int .i64 y.id, .int .i64 y.n, .bool y.good, py, dy, .string y.data, .int .i64 x.kind, .int .i64 x.id, .int .i64 x.n, .bool x.good, px, dx, .string x.data] 24)) fun e w' => e = .returned (.tuple #[.string (bs (allB [x, y, x])), .int .i64 0]) ∧ Below W.heap.size W w' := by
  have hal : Below W.heap.size W (W.alloc (.cells (blk3 x y px dx py dy) 24)) := (Below.refl _ _).alloc (Nat.le_refl _) _
  refine (all_calls [x, y, x] 0 _ W.heap.size 0 3 _ (coms3 h) (by simp) (by simp) (Nat.le_refl _) ?_).mono ?_
  · intro c hc
    simp at hc
    rcases hc with rfl | rfl | rfl <;> assumption
  · rintro e w' ⟨rfl, h2⟩
    exact ⟨rfl, hal.trans (h2.mono hal.size)⟩
theorem bcell' {W W' : World} {b j : Nat} {v : Value} (hb : Below W.heap.size W W') (h : W.cell? ⟨b, j, none⟩ = some v) : W'.cell? ⟨b, j, none⟩ = some v := by
  rw [Below.cell hb (p := ⟨b, j, none⟩) (World.block_lt_of_cell? _ _ h)]
  exact h
end
end Go.Proofs.Ytbedamkeeongfaa
