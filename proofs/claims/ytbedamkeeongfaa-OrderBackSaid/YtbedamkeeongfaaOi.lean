/- Name, Same and isNumber in plain words: contracts over the printed ones. isNumber, isRow in plain words. Good in plain words. -/
import Derived.Test.YtbedamkeeongfaaOf
import Derived.Test.YtbedamkeeongfaaPOrderExactx1
import Derived.Deep.RegionHeld3
namespace Go.Proofs.Ytbedamkeeongfaa
open Go.RowKit Go.Proofs.Ytbedamkeeongfaa.Mem Go.Proofs.Ytbedamkeeongfaa.POrderExact Go.Proofs.YtbedamkeeongfaaW.PrintWords Go.Proofs.YtbedamkeeongfaaW.PrintLast Go.Proofs.YtbedamkeeongfaaW.PrintMore
set_option linter.unusedVariables false

theorem Sl.reads {w : World} {A B : Nat} {v : Value} {xs : List Int} (h : Sl w A B v xs) : ∃ ao c, v = .slice ao xs.length c ∧ xs.length ≤ c ∧ Kd.C (Kd.int .i64) w ao xs.length xs := by
  obtain ⟨h1, ao, c, h2, h3, h4⟩ := h
  refine ⟨ao, c, h2, h3, rfl, by omega, fun hx => ?_⟩
  obtain ⟨g, o, rfl, _, _, h5⟩ := h4 hx
  refine ⟨_, rfl, fun j p hj => ⟨[.int .i64 p], rfl, rfl, fun i u hu => ?_⟩⟩
  have hjl := (List.getElem?_eq_some_iff.1 hj).1
  match i, hu with
  | 0, hu =>
    simp at hu
    subst hu
    rw [Addr.add_lit]
    have := h5 j hjl
    rw [List.getD_eq_getElem?_getD, hj] at this
    show w.cell? ⟨g, o + (j * 1 + 0), none⟩ = _
    simpa using this

/-- the kinds' words -/
def words : List ByteArray := [⟨#[115, 117, 98, 109, 105, 116]⟩, ⟨#[99, 97, 110, 99, 101, 108]⟩, ⟨#[112, 111, 108, 108]⟩, ⟨#[97, 100, 109, 105, 116]⟩, ⟨#[112, 105, 99, 107]⟩, ⟨#[110, 111, 116, 101]⟩, ⟨#[98, 101, 103, 105, 110]⟩, ⟨#[99, 104, 117, 110, 107]⟩, ⟨#[115, 101, 97, 108]⟩, ⟨#[116, 114, 121]⟩, ⟨#[112, 114, 111, 109, 111, 116, 101]⟩, ⟨#[97, 98, 111, 114, 116]⟩, ⟨#[115, 116, 97, 116, 117, 115]⟩]
/-- a kind's word -/
def nameB (k : Int) : ByteArray := if k < 1 then ⟨#[]⟩ else if k > 13 then ⟨#[]⟩ else words.getD (k - 1).toNat ByteArray.empty
theorem nameB_empty (k : Int) (h : k < 1 ∨ 13 < k) : nameB k = ⟨#[]⟩ := by
  unfold nameB
  rcases h with h | h
  · rw [if_pos h]
  · rw [if_neg (by omega), if_pos h]
theorem nameB_full (k : Int) (h : 1 ≤ k ∧ k ≤ 13) : ((nameB k).toList == (⟨#[]⟩ : ByteArray).toList) = false := by
  obtain ⟨h1, h2⟩ := h
  rcases (by omega : k = 1 ∨ k = 2 ∨ k = 3 ∨ k = 4 ∨ k = 5 ∨ k = 6 ∨ k = 7 ∨ k = 8 ∨ k = 9 ∨ k = 10 ∨ k = 11 ∨ k = 12 ∨ k = 13) with rfl | rfl | rfl | rfl | rfl | rfl | rfl | rfl | rfl | rfl | rfl | rfl | rfl <;> decide +kernel

theorem oext {a b : ByteArray} (h : a.data.toList = b.data.toList) : a = b := by
  cases a; cases b; simp only [ByteArray.mk.injEq]; exact Array.toList_inj.1 h
theorem o_ne {a b : ByteArray} (h : ¬ a = b) : (a.toList == b.toList) = false := by
  rw [beq_eq_false_iff_ne]
  intro e
  exact h (oext (by rw [← Lib.toList_data, ← Lib.toList_data]; exact e))

theorem name_calls (k : Int) (w : World) : Calls Try.prog 12 #[.int .i64 k] w fun e w' => e = .returned (.string (nameB k)) ∧ Below w.heap.size w w' := by
  refine order_Name.calls k (nameB k) w ?_
  unfold order_Name.f nameB
  rw [Option.bind_some]
  by_cases h1 : k < 1
  · rw [if_pos h1, if_pos h1]
  by_cases h2 : k > 13
  · rw [if_neg h1, if_neg h1, if_pos h2, if_pos h2]
  rw [if_neg h1, if_neg h1, if_neg h2, if_neg h2]
  have hw : wrap64 (k - 1) = k - 1 := by unfold wrap64; omega
  rw [hw, if_pos (by omega), if_pos (by simp; omega)]
  rfl

theorem equal_l0 (xs ys : List Int) (hl : xs.length = ys.length) (hb : (xs.length : Int) ≤ 1000000) : ∀ (d i : Nat), xs.length = i + d → ∃ k r, slices_Equal_int_int.l0 k xs ys xs.length i = some r ∧ (r = true ↔ xs.drop i = ys.drop i)
  | 0, i, h => ⟨1, true, by simp only [slices_Equal_int_int.l0]; rw [if_neg (by omega)], by simp [List.drop_eq_nil_of_le (show xs.length ≤ i by omega), List.drop_eq_nil_of_le (show ys.length ≤ i by omega)]⟩
  | d + 1, i, h => by
    have hx : i < xs.length := by omega
    have hy : i < ys.length := by omega
    have hdx := List.drop_eq_getElem_cons hx
    have hdy := List.drop_eq_getElem_cons hy
    have rx : rd xs (i : Int) = xs[i] := by simp [rd, hx]
    have ry : rd ys (i : Int) = ys[i] := by simp [rd, hy]
    by_cases he : xs[i] = ys[i]
    · obtain ⟨k, r, hr, hi⟩ := equal_l0 xs ys hl hb d (i + 1) (by omega)
      refine ⟨k + 1, r, ?_, ?_⟩
      · simp only [slices_Equal_int_int.l0]
        rw [if_pos (by omega), if_pos (by omega), if_pos (by omega), if_pos (by omega), rx, ry, if_pos he]
        have : wrap64 ((i : Int) + 1) = ((i + 1 : Nat) : Int) := by unfold wrap64; omega
        rw [this]; exact hr
      · rw [hi, hdx, hdy, List.cons.injEq]; exact ⟨fun h => ⟨he, h⟩, fun h => h.2⟩
    · refine ⟨1, false, ?_, ?_⟩
      · simp only [slices_Equal_int_int.l0]
        rw [if_pos (by omega), if_pos (by omega), if_pos (by omega), if_pos (by omega), rx, ry, if_neg he]
      · rw [hdx, hdy, List.cons.injEq]; exact ⟨fun h => by simp at h, fun h => absurd h.1 he⟩
theorem equal_f (xs ys : List Int) (hb : (xs.length : Int) ≤ 1000000) : ∃ k r, slices_Equal_int_int.f k xs ys = some r ∧ (r = true ↔ xs = ys) := by
  by_cases hl : xs.length = ys.length
  · obtain ⟨k, r, h, hr⟩ := equal_l0 xs ys hl hb xs.length 0 (by omega)
    exact ⟨k, r, by unfold slices_Equal_int_int.f; rw [if_pos (by omega)]; exact h, by simpa using hr⟩
  · exact ⟨0, false, by unfold slices_Equal_int_int.f; rw [if_neg (by omega)], by simp; rintro rfl; exact hl rfl⟩

theorem same_calls (c c' : Cmd) (p d p' d' : Value) (A B A' B' A2 B2 A3 B3 : Nat) (w : World) (hp : Sl w A B p c.pr) (hd : Sl w A' B' d c.dr) (hp' : Sl w A2 B2 p' c'.pr) (hd' : Sl w A3 B3 d' c'.dr) :
    Calls Try.prog 15 #[.agg (c.vals p d), .agg (c'.vals p' d')] w fun e w' => ∃ r, e = .returned (.bool r) ∧ (r = true ↔ c = c') ∧ Below w.heap.size w w' := by
  have l1 := hp.1
  have l2 := hd.1
  obtain ⟨a1, c1, rfl, h1, r1⟩ := hp.reads
  obtain ⟨a2, c2, rfl, h2, r2⟩ := hd.reads
  obtain ⟨a3, c3, rfl, h3, r3⟩ := hp'.reads
  obtain ⟨a4, c4, rfl, h4, r4⟩ := hd'.reads
  obtain ⟨kd, id, n, good, pr, dr, data⟩ := c
  obtain ⟨kd', id', n', good', pr', dr', data'⟩ := c'
  obtain ⟨k1, e1, q1, i1⟩ := equal_f pr pr' l1
  obtain ⟨k2, e2, q2, i2⟩ := equal_f dr dr' l2
  have q1' := at_rounds (slices_Equal_int_int.mono pr pr') (Nat.le_max_left k1 k2) q1
  have q2' := at_rounds (slices_Equal_int_int.mono dr dr') (Nat.le_max_right k1 k2) q2
  have hj : ∀ x, order_Same.j0 (max k1 k2 + 1) x kd id n good pr dr data kd' id' n' good' pr' dr' data' = some (if x = true then false else if e1 = true then e2 else false) := by
    intro x
    simp only [order_Same.j0, q1', q2', Option.bind_some]
    cases x <;> cases e1 <;> rfl
  have hf : ∃ r, order_Same.f (max k1 k2 + 1) kd id n good pr dr data kd' id' n' good' pr' dr' data' = some r ∧ (r = true ↔ (Cmd.mk kd id n good pr dr data) = (Cmd.mk kd' id' n' good' pr' dr' data')) := by
    unfold order_Same.f
    simp only [hj, Cmd.mk.injEq]
    have hd : (data.toList != data'.toList) = true ↔ ¬ data = data' := by
      by_cases h : data = data'
      · subst h; simp
      · rw [bne, o_ne h]; simp [h]
    by_cases ha : kd = kd'
    · by_cases hb : id = id'
      · by_cases hc : n = n'
        · by_cases hg : good = good'
          · subst hg
            by_cases he : data = data'
            · have hd' : (data.toList != data'.toList) = false := by cases h : (data.toList != data'.toList); rfl; exact absurd he (hd.1 h)
              simp only [ha, hb, hc, he, if_true]
              subst he
              cases e1 <;> simp_all
            · simp [ha, hb, hc, hd.2 he, he]
          · have : (good != good') = true := by simpa using hg
            simp [ha, hb, hc, this, hg]
        · simp [ha, hb, hc]
      · simp [ha, hb]
    · simp [ha]
  obtain ⟨r, hr, hri⟩ := hf
  refine (order_Same.calls _ kd id n good a1 c1 pr a2 c2 dr data kd' id' n' good' a3 c3 pr' a4 c4 dr' data' r w r1 h1 r2 h2 r3 h3 r4 h4 hr).mono ?_
  rintro e w' ⟨rfl, hb⟩
  exact ⟨r, rfl, hri, hb⟩
end Go.Proofs.Ytbedamkeeongfaa

namespace Go.Proofs.Ytbedamkeeongfaa
open Go.RowKit Go.Proofs.Ytbedamkeeongfaa.Mem Go.Proofs.Ytbedamkeeongfaa.POrderExact Go.Proofs.YtbedamkeeongfaaW.PrintWords
set_option linter.unusedVariables false

/-- whether one can be told -/
def numB (n : Int) : Bool := decide (-2147483648 ≤ n) && decide (n < 2147483648)
theorem number_calls (n : Int) (w : World) : Calls Try.prog 32 #[.int .i64 n] w fun e w' => e = .returned (.bool (numB n)) ∧ w' = w := by
  unfold numB
  by_cases h1 : -2147483648 ≤ n
  · go_enter Try.func32, Try.ntmps32
    go_wp2
    go_ret
    exact ⟨by simp [h1], rfl⟩
  · go_enter Try.func32, Try.ntmps32
    go_wp2
    go_ret
    exact ⟨by simp [h1]; omega, rfl⟩

theorem isRow1_calls (n : Int) (w : World) : Calls Try.prog 54 #[.int .i64 n] w fun e w' => e = .returned (.bool (!numB n)) ∧ w' = w := by
  obtain ⟨r, hr⟩ : ∃ r, numB n = r := ⟨_, rfl⟩
  have hc := number_calls n w
  rw [hr] at hc ⊢
  go_enter Try.func54, Try.ntmps54
  go_wp2_with (go_at_call 32; refine hc.mono ?_; rintro e w' ⟨rfl, rfl⟩)
  go_ret
  exact ⟨rfl, rfl⟩

set_option maxRecDepth 100000 in
theorem index_calls (A B : Nat) (v : Value) (xs : List Int) (w : World) (h : Sl w A B v xs) :
    Calls Try.prog 63 #[v, .func (.func 54) #[] #[]] w fun e w' => ∃ i : Int, e = .returned (.int .i64 i) ∧ ((0 ≤ i) = ¬ (xs.all numB = true)) ∧ w' = w := by
  obtain ⟨h1, ao, c, rfl, h3, h4⟩ := h
  go_enter Try.func63, Try.ntmps63
  have H4 := Lib.hid h4
  clear h4
  go_wp2_with fail
  go_loopw [8] (fun i wr => ∃ k : Nat, k ≤ xs.length ∧ i = .int .i64 k ∧ (xs.take k).all numB = true ∧ w = wr) (fun i _ => xs.length - (intOf i).toNat)
  case atStart => exact ⟨0, by omega, rfl, rfl, rfl⟩
  case round =>
    obtain ⟨k, hk, rfl, hall, rfl⟩ := hrel
    by_cases hlt : k < xs.length
    · obtain ⟨g, o, rfl, _, _, hc⟩ := H4.out (by omega)
      obtain ⟨n, hn⟩ : ∃ n, xs.getD k 0 = n := ⟨_, rfl⟩
      have mk := hc k hlt
      rw [hn] at mk
      obtain ⟨r, hr⟩ : ∃ r, numB n = r := ⟨_, rfl⟩
      have hcl := isRow1_calls n w
      rw [hr] at hcl
      have HC := Lib.hid hcl
      have hxs : xs[k] = n := by rw [← hn, List.getD_eq_getElem?_getD, List.getElem?_eq_getElem hlt]; rfl
      have HR := Lib.hid hr
      have HX := Lib.hid hxs
      have HA := Lib.hid hall
      clear hc hn hcl hxs hr hall
      cases r
      · go_wp2_with (go_at_call 54; refine HC.out.mono ?_; rintro e w' ⟨rfl, rfl⟩)
        go_ret
        refine ⟨_, rfl, ?_, rfl⟩
        have : ¬ xs.all numB = true := by
          rw [List.all_eq_true]; intro h
          have := h xs[k] (List.getElem_mem hlt)
          rw [HX.out, HR.out] at this; simp at this
        simp only [eq_iff_iff]
        exact ⟨fun _ => this, fun _ => by omega⟩
      · go_wp2_with (go_at_call 54; refine HC.out.mono ?_; rintro e w' ⟨rfl, rfl⟩)
        go_roundw
        case rel => exact ⟨k + 1, by omega, by go_num, by rw [List.take_add_one, List.all_append, HA.out, List.getElem?_eq_getElem hlt, HX.out]; simp [HR.out], trivial⟩
        case measure => simp [intOf]; omega
    · obtain rfl : k = xs.length := by omega
      have HA := Lib.hid hall
      clear hall
      go_wp2
      go_ret
      refine ⟨-1, rfl, ?_, rfl⟩
      have := HA.out
      rw [List.take_length] at this
      simp [this]

theorem contains_calls (A B : Nat) (v : Value) (xs : List Int) (w : World) (h : Sl w A B v xs) :
    Calls Try.prog 53 #[v, .func (.func 54) #[] #[]] w fun e w' => e = .returned (.bool (!(xs.all numB))) ∧ w' = w := by
  have hc := index_calls A B v xs w h
  obtain ⟨ao, c, rfl⟩ := h.slice
  obtain ⟨r, hr⟩ : ∃ r, xs.all numB = r := ⟨_, rfl⟩
  rw [hr] at hc ⊢
  clear h
  go_enter Try.func53, Try.ntmps53
  go_wp2_with (go_at_call 63; refine hc.mono ?_; rintro e w' ⟨i, rfl, hi, rfl⟩)
  go_ret
  refine ⟨?_, rfl⟩
  cases r <;> simp_all

/-- whether a row can be told -/
def rowOk (xs : List Int) : Bool := decide ((xs.length : Int) ≤ 32) && xs.all numB
theorem isRow_calls (A B : Nat) (v : Value) (xs : List Int) (w : World) (h : Sl w A B v xs) :
    Calls Try.prog 33 #[v] w fun e w' => e = .returned (.bool (rowOk xs)) ∧ w' = w := by
  have hl := h.1
  have hc := contains_calls A B v xs w h
  obtain ⟨ao, c, rfl⟩ := h.slice
  obtain ⟨r, hr⟩ : ∃ r, xs.all numB = r := ⟨_, rfl⟩
  obtain ⟨q, hq⟩ : ∃ q, rowOk xs = q := ⟨_, rfl⟩
  rw [hq]
  unfold rowOk at hq
  rw [hr] at hc hq
  have HQ := Lib.hid hq
  clear h hq
  by_cases h32 : (xs.length : Int) ≤ 32
  · go_enter Try.func33, Try.ntmps33
    go_wp2_with (go_at_call 53; refine hc.mono ?_; rintro e w' ⟨rfl, rfl⟩)
    go_ret
    have hq := HQ.out
    rw [decide_eq_true h32] at hq
    exact ⟨by rw [← hq]; simp, rfl⟩
  · go_enter Try.func33, Try.ntmps33
    go_wp2_with fail
    go_ret
    have hq := HQ.out
    rw [decide_eq_false (by omega)] at hq
    exact ⟨by rw [← hq]; simp, rfl⟩
end Go.Proofs.Ytbedamkeeongfaa

namespace Go.Proofs.Ytbedamkeeongfaa
open Go.RowKit Go.Proofs.Ytbedamkeeongfaa.Mem Go.Proofs.Ytbedamkeeongfaa.POrderExact Go.Proofs.YtbedamkeeongfaaW.PrintWords
set_option linter.unusedVariables false

theorem rest_named (c : Cmd) (p d : Value) (A B : Nat) (w : World) (hp : Sl w A B p c.pr) (hd : Sl w A B d c.dr) (hB : B ≤ w.heap.size) :
    Calls Try.prog 31 #[.agg (c.vals p d)] w fun e w' => ∃ p' d', e = .returned (.agg (c.rest.vals p' d')) ∧ Sl w' A B p' c.rest.pr ∧ Sl w' A B d' c.rest.dr ∧ Below w.heap.size w w' := by
  obtain ⟨a1, c1, e1⟩ := hp.slice
  obtain ⟨a2, c2, e2⟩ := hd.slice
  refine (rest_calls c p d ⟨_, _, _, e1⟩ ⟨_, _, _, e2⟩ w).mono ?_
  rintro e w' ⟨rfl, hb⟩
  refine ⟨_, _, rfl, ?_, ?_, hb⟩
  · unfold Cmd.rest
    simp only
    split
    · exact Sl.nil _ _ _ _ _
    · exact hp.below (hb.mono hB) (Nat.le_refl _) (Nat.le_refl _)
  · unfold Cmd.rest
    simp only
    split
    · exact Sl.nil _ _ _ _ _
    · exact hd.below (hb.mono hB) (Nat.le_refl _) (Nat.le_refl _)

/-- whether a command can be -/
def goodP (c : Cmd) : Prop := (1 ≤ c.kind ∧ c.kind ≤ 13) ∧ c.rest = ⟨c.kind, 0, 0, false, [], [], ⟨#[]⟩⟩ ∧ numB c.id = true ∧ numB c.n = true ∧ rowOk c.pr = true ∧ rowOk c.dr = true ∧ (c.data.size : Int) ≤ 1024

theorem rest_lit (c : Cmd) (p d : Value) (A B : Nat) (w : World) (hp : Sl w A B p c.pr) (hd : Sl w A B d c.dr) (hB : B ≤ w.heap.size) :
    Calls Try.prog 31 #[.agg #[.int .i64 c.kind, .int .i64 c.id, .int .i64 c.n, .bool c.good, p, d, .string c.data]] w fun e w' => ∃ p' d', e = .returned (.agg (c.rest.vals p' d')) ∧ Sl w' A B p' c.rest.pr ∧ Sl w' A B d' c.rest.dr ∧ Below w.heap.size w w' := rest_named c p d A B w hp hd hB

theorem same_zero (k : Int) (c : Cmd) (p d : Value) (A B : Nat) (w : World) (hp : Sl w A B p c.pr) (hd : Sl w A B d c.dr) :
    Calls Try.prog 15 #[.agg (c.vals p d), .agg #[.int .i64 k, .int .i64 0, .int .i64 0, .bool false, .slice none 0 0, .slice none 0 0, .string ⟨#[]⟩]] w fun e w' => ∃ r, e = .returned (.bool r) ∧ (r = true ↔ c = ⟨k, 0, 0, false, [], [], ⟨#[]⟩⟩) ∧ Below w.heap.size w w' :=
  same_calls c ⟨k, 0, 0, false, [], [], ⟨#[]⟩⟩ p d (.slice none 0 0) (.slice none 0 0) A B A B 0 0 0 0 w hp hd (Sl.nil _ _ _ _ _) (Sl.nil _ _ _ _ _)

set_option maxRecDepth 100000 in
set_option maxHeartbeats 2000000 in
theorem good_calls (c : Cmd) (p d : Value) (A B : Nat) (w : World) (hp : Sl w A B p c.pr) (hd : Sl w A B d c.dr) (hB : B ≤ w.heap.size) :
    Calls Try.prog 11 #[.agg (c.vals p d)] w fun e w' => ∃ r, e = .returned (.bool r) ∧ (r = true ↔ goodP c) ∧ Below w.heap.size w w' := by
  obtain ⟨pa, pc, rfl⟩ := hp.slice
  obtain ⟨da, dc, rfl⟩ := hd.slice
  have HP := Lib.hid hp
  have HD := Lib.hid hd
  clear hp hd
  by_cases hk : 1 ≤ c.kind ∧ c.kind ≤ 13
  · have hn := fun w => name_calls c.kind w
    obtain ⟨nb, hnb⟩ : ∃ nb, nameB c.kind = nb := ⟨_, rfl⟩
    have hne := nameB_full c.kind hk
    rw [hnb] at hne hn
    have hne2 : nb.toList.isEmpty = false := by simpa using hne
    clear hne
    go_enter Try.func11, Try.ntmps11
    go_wp2_with fail
    generalize hW : w.alloc (.cells (c.vals (.slice pa c.pr.length pc) (.slice da c.dr.length dc)) 24) = W
    have hbW : Below w.heap.size w W := by rw [← hW]; exact (Below.refl _ w).alloc (Nat.le_refl _) _
    have hb : W.heap[w.heap.size]? = some (.cells (c.vals (.slice pa c.pr.length pc) (.slice da c.dr.length dc)) 24 (0, 0)) := by rw [← hW]; exact heap_alloc_new _ _
    obtain ⟨c0, c1, c2, c3, c4, c5, c6, cf⟩ := cmd_cells (w := W.drew) hb
    have HB := Lib.hid hb
    have HW := Lib.hid hbW
    have SP := Lib.hid (Sl.below (A' := A) (B' := B) HP.out (hbW.mono hB).drew (Nat.le_refl _) (Nat.le_refl _))
    have SD := Lib.hid (Sl.below (A' := A) (B' := B) HD.out (hbW.mono hB).drew (Nat.le_refl _) (Nat.le_refl _))
    have wl : w.heap.size < W.drew.heap.size := by have := lt_of_block hb; exact this
    have hBw : B ≤ W.drew.heap.size := by omega
    clear hb hbW cf hW
    first | go_region_with (first | ((with_reducible refine (hn _).mono ?_); rintro e w1 ⟨rfl, h1⟩; have hb1 := (h1.block w.heap.size wl).trans HB.out; have hs1 := h1.size; have SP1 := Lib.hid (Sl.below SP.out (h1.mono hBw) (Nat.le_refl _) (Nat.le_refl _)); have SD1 := Lib.hid (Sl.below SD.out (h1.mono hBw) (Nat.le_refl _) (Nat.le_refl _)); obtain ⟨e0, e1, e2, e3, e4, e5, e6, _⟩ := cmd_cells hb1; have HB1 := Lib.hid hb1; have H1 := Lib.hid h1; clear hb1 h1) | ((with_reducible refine (rest_lit _ _ _ A B _ SP1.out SD1.out (Nat.le_trans hBw hs1)).mono ?_); rintro e w2 ⟨p', d', rfl, hp2, hd2, h2⟩; have hb2 := (h2.block w.heap.size (Nat.lt_of_lt_of_le wl hs1)).trans HB1.out; have hs2 := h2.size; have SP2 := Lib.hid hp2; have SD2 := Lib.hid hd2; obtain ⟨g0, g1, g2, g3, g4, g5, g6, _⟩ := cmd_cells hb2; have HB2 := Lib.hid hb2; have H2 := Lib.hid h2; clear hb2 h2 hp2 hd2) | ((with_reducible refine (same_zero _ _ _ _ A B _ SP2.out SD2.out).mono ?_); rintro e w3 ⟨r0, rfl, hr0, h3⟩; have hb3 := (h3.block w.heap.size (Nat.lt_of_lt_of_le wl (Nat.le_trans hs1 hs2))).trans HB2.out; have HR0 := Lib.hid hr0; obtain ⟨y0, y1, y2, y3, y4, y5, y6, _⟩ := cmd_cells hb3; have HB3 := Lib.hid hb3; have H3 := Lib.hid h3; clear hb3 h3 hr0))
    all_goals
      have hBs : B ≤ w1.heap.size := Nat.le_trans hBw hs1
      have SP3 := Lib.hid (Sl.below (A' := A) (B' := B) (Sl.below (A' := A) (B' := B) SP1.out (H2.out.mono hBs) (Nat.le_refl _) (Nat.le_refl _)) (H3.out.mono (Nat.le_trans hBs hs2)) (Nat.le_refl _) (Nat.le_refl _))
      have SD3 := Lib.hid (Sl.below (A' := A) (B' := B) (Sl.below (A' := A) (B' := B) SD1.out (H2.out.mono hBs) (Nat.le_refl _) (Nat.le_refl _)) (H3.out.mono (Nat.le_trans hBs hs2)) (Nat.le_refl _) (Nat.le_refl _))
      have HF := Lib.hid (((HW.out.drew.trans (H1.out.mono (Nat.le_of_lt wl))).trans (H2.out.mono (Nat.le_trans (Nat.le_of_lt wl) hs1))).trans (H3.out.mono (Nat.le_trans (Nat.le_trans (Nat.le_of_lt wl) hs1) hs2)))
      clear c0 c1 c2 c3 c4 c5 c6 e0 e1 e2 e3 e4 e5 e6 g0 g1 g2 g3 g4 g5 g6
      cases r0 with
      | false =>
        go_wp2
        go_ret
        exact ⟨false, rfl, ⟨fun h => by simp at h, fun h => by have := HR0.out.2 h.2.1; simp at this⟩, HF.out⟩
      | true =>
        have HG := Lib.hid (show goodP c ↔ (numB c.id = true ∧ numB c.n = true ∧ rowOk c.pr = true ∧ rowOk c.dr = true ∧ (c.data.size : Int) ≤ 1024) from ⟨fun h => h.2.2, fun h => ⟨hk, HR0.out.1 rfl, h⟩⟩)
        have hq1 := number_calls c.id
        have hq2 := number_calls c.n
        have hq3 := isRow_calls A B _ c.pr _ SP3.out
        have hq4 := isRow_calls A B _ c.dr _ SD3.out
        generalize numB c.id = b1 at hq1 HG
        generalize numB c.n = b2 at hq2 HG
        generalize rowOk c.pr = b3 at hq3 HG
        generalize rowOk c.dr = b4 at hq4 HG
        cases b1 with
        | false =>
          go_wp2_with (first | (go_at_call 32; first | ((with_reducible refine (hq1 _).mono ?_); rintro e w' ⟨rfl, rfl⟩) | ((with_reducible refine (hq2 _).mono ?_); rintro e w' ⟨rfl, rfl⟩)) | (go_at_call 33; first | ((with_reducible refine hq3.mono ?_); rintro e w' ⟨rfl, rfl⟩) | ((with_reducible refine hq4.mono ?_); rintro e w' ⟨rfl, rfl⟩)))
          go_ret
          exact ⟨false, rfl, by rw [HG.out]; simp, HF.out⟩
        | true =>
          cases b2 with
          | false =>
            go_wp2_with (first | (go_at_call 32; first | ((with_reducible refine (hq1 _).mono ?_); rintro e w' ⟨rfl, rfl⟩) | ((with_reducible refine (hq2 _).mono ?_); rintro e w' ⟨rfl, rfl⟩)) | (go_at_call 33; first | ((with_reducible refine hq3.mono ?_); rintro e w' ⟨rfl, rfl⟩) | ((with_reducible refine hq4.mono ?_); rintro e w' ⟨rfl, rfl⟩)))
            go_ret
            exact ⟨false, rfl, by rw [HG.out]; simp, HF.out⟩
          | true =>
            cases b3 with
            | false =>
              go_wp2_with (first | (go_at_call 32; first | ((with_reducible refine (hq1 _).mono ?_); rintro e w' ⟨rfl, rfl⟩) | ((with_reducible refine (hq2 _).mono ?_); rintro e w' ⟨rfl, rfl⟩)) | (go_at_call 33; first | ((with_reducible refine hq3.mono ?_); rintro e w' ⟨rfl, rfl⟩) | ((with_reducible refine hq4.mono ?_); rintro e w' ⟨rfl, rfl⟩)))
              go_ret
              exact ⟨false, rfl, by rw [HG.out]; simp, HF.out⟩
            | true =>
              cases b4 with
              | false =>
                go_wp2_with (first | (go_at_call 32; first | ((with_reducible refine (hq1 _).mono ?_); rintro e w' ⟨rfl, rfl⟩) | ((with_reducible refine (hq2 _).mono ?_); rintro e w' ⟨rfl, rfl⟩)) | (go_at_call 33; first | ((with_reducible refine hq3.mono ?_); rintro e w' ⟨rfl, rfl⟩) | ((with_reducible refine hq4.mono ?_); rintro e w' ⟨rfl, rfl⟩)))
                go_ret
                exact ⟨false, rfl, by rw [HG.out]; simp, HF.out⟩
              | true =>
                go_wp2_with (first | (go_at_call 32; first | ((with_reducible refine (hq1 _).mono ?_); rintro e w' ⟨rfl, rfl⟩) | ((with_reducible refine (hq2 _).mono ?_); rintro e w' ⟨rfl, rfl⟩)) | (go_at_call 33; first | ((with_reducible refine hq3.mono ?_); rintro e w' ⟨rfl, rfl⟩) | ((with_reducible refine hq4.mono ?_); rintro e w' ⟨rfl, rfl⟩)))
                go_ret
                exact ⟨_, rfl, by rw [HG.out]; simp, HF.out⟩
  · have hn := fun w => name_calls c.kind w
    rw [nameB_empty c.kind (by omega)] at hn
    go_enter Try.func11, Try.ntmps11
    go_wp2_with fail
    generalize hW : w.alloc (.cells (c.vals (.slice pa c.pr.length pc) (.slice da c.dr.length dc)) 24) = W
    have hbW : Below w.heap.size w W := by rw [← hW]; exact (Below.refl _ w).alloc (Nat.le_refl _) _
    have hb : W.heap[w.heap.size]? = some (.cells (c.vals (.slice pa c.pr.length pc) (.slice da c.dr.length dc)) 24 (0, 0)) := by rw [← hW]; exact heap_alloc_new _ _
    obtain ⟨c0, c1, c2, c3, c4, c5, c6, cf⟩ := cmd_cells (w := W.drew) hb
    have HB := Lib.hid hb
    have HW := Lib.hid hbW
    have wl : w.heap.size < W.drew.heap.size := by have := lt_of_block hb; exact this
    clear hb hbW cf
    first | go_region_with ((with_reducible refine (hn _).mono ?_); rintro e w1 ⟨rfl, h1⟩; have hb1 := (h1.block w.heap.size wl).trans HB.out; obtain ⟨e0, e1, e2, e3, e4, e5, e6, _⟩ := cmd_cells hb1; clear hb1) | fail
    all_goals
      go_wp2
      go_ret
      refine ⟨false, rfl, ⟨fun h => by simp at h, fun h => absurd h.1 hk⟩, HW.out.drew.trans (h1.mono (Nat.le_of_lt wl))⟩
end Go.Proofs.Ytbedamkeeongfaa
