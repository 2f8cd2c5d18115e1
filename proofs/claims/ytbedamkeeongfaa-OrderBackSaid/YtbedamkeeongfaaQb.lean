/- Contracts of the law's small and fit. -/
import Derived.Test.YtbedamkeeongfaaOu
import Derived.Test.YtbedamkeeongfaaOt
namespace Go.Proofs.Ytbedamkeeongfaa
open Go.RowKit Go.Proofs.Ytbedamkeeongfaa.Mem
set_option linter.unusedVariables false

/-- a number that can be told -/
def sml (n : Int) : Int := IntKind.i32.wrap n
theorem sml_in (n : Int) : -2147483648 ≤ sml n ∧ sml n < 2147483648 := by
  rw [sml, IntKind.wrap_i32]
  omega

theorem small_calls (n : Int) (w : World) : Calls Try.prog 46 #[.int .i64 n] w fun e w' => e = .returned (.int .i64 (sml n)) ∧ w' = w := by
  have h := sml_in n
  have e0 : wrap32 n = sml n := by rw [sml, IntKind.wrap_i32, wrap32]
  have e : wrap64 (wrap32 n) = sml n := by rw [e0, ← w64]; exact IntWalk.i64_in _ (by omega)
  have E := Lib.hid e
  clear e e0
  go_enter Try.func46, Try.ntmps46
  go_wp2
  rw [E.out]
  go_ret
  exact ⟨rfl, rfl⟩

theorem bel_grown {K : Nat} {w wr w2 : World} {row : Option Nat} (h : Below K w wr) (hg : wr.grownBy w2 row) (hK : K ≤ w.heap.size) (hr : ∀ j, row = some j → K ≤ j) : Below K w w2 :=
  ⟨hg.os.trans h.os, hg.tape.trans h.tape, hg.output.trans h.output, Nat.le_trans h.size hg.size, fun k hk => (hg.block k (by have := h.size; omega) (fun e => by have := hr k e.symm; omega)).trans (h.block k hk)⟩

theorem take_sml (xs : List Int) (k : Nat) (h : k < xs.length) : ((xs.take (k + 1)).map sml).map (Value.int .i64) = ((xs.take k).map sml).map (Value.int .i64) ++ [.int .i64 (sml (xs.getD k 0))] := by
  rw [List.take_succ_eq_append_getElem h, List.getD_eq_getElem?_getD, List.getElem?_eq_getElem h, List.map_append, List.map_append]
  rfl

theorem Sl.elem {w : World} {A B : Nat} {ao : Option Addr} {n c : Nat} {xs : List Int} (h : Sl w A B (.slice ao n c) xs) {k : Nat} (hk : k < xs.length) : ∃ g o, ao = some ⟨g, o, none⟩ ∧ A ≤ g ∧ g < B ∧ w.cell? ⟨g, o + k, none⟩ = some (.int .i64 (xs.getD k 0)) := by
  obtain ⟨_, ao', c', e, _, h2⟩ := h
  injection e with e1 e2 e3
  subst e1
  obtain ⟨g, o, h3, h4, h5, h6⟩ := h2 (by omega)
  exact ⟨g, o, h3, h4, h5, h6 k hk⟩

/-- a row of at most 32 numbers that can be told -/
def capS (xs : List Int) : List Int := (xs.take 32).map sml
/-- a command that can be, made of any one -/
def Cmd.fit (c : Cmd) : Cmd :=
  ⟨c.trim.kind, sml c.trim.id, sml c.trim.n, c.trim.good, capS c.trim.pr, capS c.trim.dr, c.trim.data.extract 0 (min (c.trim.data.size : Int) 1024).toNat⟩

theorem set3 {w W : World} {N M : Nat} {t : Cmd} {p d p' d' : Value} {s : ByteArray} (h : W.heap[M]? = some (.cells (t.vals p d) 24 (0, 0))) (hz : W.heap[N]? = some (.cells (Cmd.zero.vals (.slice none 0 0) (.slice none 0 0)) 24 (0, 0))) (hne : N ≠ M) (hN : w.heap.size ≤ N) (hM : w.heap.size ≤ M) (hb : Below w.heap.size w W) :
    ∃ W5, ((W.setCell ⟨M, 4, none⟩ p').setCell ⟨M, 5, none⟩ d').setCell ⟨M, 6, none⟩ (.string s) = W5 ∧ W5.heap[M]? = some (.cells (({ t with data := s } : Cmd).vals p' d') 24 (0, 0)) ∧ W5.heap[N]? = some (.cells (Cmd.zero.vals (.slice none 0 0) (.slice none 0 0)) 24 (0, 0)) ∧ Below w.heap.size w W5 ∧ (∀ k, k ≠ M → W5.heap[k]? = W.heap[k]?) ∧ W5.heap.size = W.heap.size := by
  have hk : ∀ k, k ≠ M → (((W.setCell ⟨M, 4, none⟩ p').setCell ⟨M, 5, none⟩ d').setCell ⟨M, 6, none⟩ (.string s)).heap[k]? = W.heap[k]? := fun k hk => (Below.heap_setCell _ _ _ _ hk).trans ((Below.heap_setCell _ _ _ _ hk).trans (Below.heap_setCell _ _ _ _ hk))
  exact ⟨_, rfl, heap_set (heap_set (heap_set h 4 _) 5 _) 6 _, (hk N hne).trans hz, ((hb.setCell (p := ⟨M, 4, none⟩) hM _).setCell (p := ⟨M, 5, none⟩) hM _).setCell (p := ⟨M, 6, none⟩) hM _, hk, by simp [World.setCell]⟩

theorem fit_end {w W : World} {N : Nat} {c : Cmd} {p d : Value} (hz : W.heap[N]? = some (.cells (Cmd.zero.vals (.slice none 0 0) (.slice none 0 0)) 24 (0, 0))) (hN : w.heap.size ≤ N) (hb : Below w.heap.size w W) {A : Nat} (hA : w.heap.size ≤ A) (hNA : N < A) (hp : Sl W A W.heap.size p c.pr) (hd : Sl W A W.heap.size d c.dr) :
    (put7 W N c p d).heap[N]? = some (.cells (c.vals p d) 24 (0, 0)) ∧ Sl (put7 W N c p d) w.heap.size (put7 W N c p d).heap.size p c.pr ∧ Sl (put7 W N c p d) w.heap.size (put7 W N c p d).heap.size d c.dr ∧ Below w.heap.size w (put7 W N c p d) :=
  ⟨put7_heap hz c p d, hp.move hA (by rw [put7_size]; exact Nat.le_refl _) (fun k h1 _ => put7_other _ _ _ _ _ k (by omega)), hd.move hA (by rw [put7_size]; exact Nat.le_refl _) (fun k h1 _ => put7_other _ _ _ _ _ k (by omega)), put7_below hb N hN c p d⟩

set_option maxRecDepth 100000 in
set_option maxHeartbeats 2000000 in
theorem fit_calls (c : Cmd) (p d : Value) (A B : Nat) (w : World) (hp : Sl w A B p c.pr) (hd : Sl w A B d c.dr) (hB : B ≤ w.heap.size) (hl : (c.trim.pr.length : Int) ≤ 40 ∧ (c.trim.dr.length : Int) ≤ 40 ∧ (c.trim.data.size : Int) ≤ 1100) :
    Calls Try.prog 21 #[.agg (c.vals p d)] w fun e w' => ∃ p' d', e = .returned (.agg (c.fit.vals p' d')) ∧ Sl w' w.heap.size w'.heap.size p' c.fit.pr ∧ Sl w' w.heap.size w'.heap.size d' c.fit.dr ∧ Below w.heap.size w w' := by
  have HT := Lib.hid (fun (V : World) (hb : Below w.heap.size w V) => trim_calls c p d A B V (Sl.below (A' := A) (B' := B) hp (hb.mono hB) (Nat.le_refl _) (Nat.le_refl _)) (Sl.below (A' := A) (B' := B) hd (hb.mono hB) (Nat.le_refl _) (Nat.le_refl _)) (Nat.le_trans hB hb.size))
  obtain ⟨pa, pc, rfl⟩ := hp.slice
  obtain ⟨da, dc, rfl⟩ := hd.slice
  clear hp hd
  obtain ⟨l1, l2, l3⟩ := hl
  have hfit : c.fit = ⟨c.trim.kind, sml c.trim.id, sml c.trim.n, c.trim.good, capS c.trim.pr, capS c.trim.dr, c.trim.data.extract 0 (min (c.trim.data.size : Int) 1024).toNat⟩ := rfl
  rw [hfit]
  clear hfit
  generalize c.trim = t at HT l1 l2 l3 ⊢
  go_enter Try.func21, Try.ntmps21
  go_upto_region 1 with fail
  generalize hW : (w.alloc (.cells (c.vals (.slice pa c.pr.length pc) (.slice da c.dr.length dc)) 24)).alloc (.cells #[.int .i64 0, .int .i64 0, .int .i64 0, .bool false, .slice none 0 0, .slice none 0 0, .string ⟨#[]⟩] 24) = W
  have hbW : Below w.heap.size w W := by rw [← hW]; exact ((Below.refl _ w).alloc (Nat.le_refl _) _).alloc (by simp) _
  have hb : W.heap[w.heap.size]? = some (.cells (c.vals (.slice pa c.pr.length pc) (.slice da c.dr.length dc)) 24 (0, 0)) := by rw [← hW]; exact heap_two _ _ _
  have hz : W.heap[w.heap.size + 1]? = some (.cells (Cmd.zero.vals (.slice none 0 0) (.slice none 0 0)) 24 (0, 0)) := by rw [← hW]; exact heap_alloc_new2 _ _ _
  clear hW
  have hWs := lt_of_block hz
  obtain ⟨c0, c1, c2, c3, c4, c5, c6, -⟩ := cmd_cells (w := W) hb
  have HZ := Lib.hid hz
  have htw : Calls Try.prog 17 #[.agg #[.int .i64 c.kind, .int .i64 c.id, .int .i64 c.n, .bool c.good, .slice pa c.pr.length pc, .slice da c.dr.length dc, .string c.data]] W fun e w' => ∃ ya yc za zc, e = .returned (.agg #[.int .i64 t.kind, .int .i64 t.id, .int .i64 t.n, .bool t.good, .slice ya t.pr.length yc, .slice za t.dr.length zc, .string t.data]) ∧ Sl w' W.heap.size w'.heap.size (.slice ya t.pr.length yc) t.pr ∧ Sl w' W.heap.size w'.heap.size (.slice za t.dr.length zc) t.dr ∧ Below W.heap.size W w' := by
    refine (HT.out W hbW).mono ?_
    rintro e w1 ⟨p', d', rfl, h1, h2, h3⟩
    obtain ⟨ya, yc, rfl⟩ := h1.slice
    obtain ⟨za, zc, rfl⟩ := h2.slice
    exact ⟨ya, yc, za, zc, rfl, h1, h2, h3⟩
  have HTW := Lib.hid htw
  clear htw
  have HW := Lib.hid hbW
  clear hb hz hbW
  go_upto_region 2 with (go_at_call 17; refine HTW.out.mono ?_; rintro e w1 ⟨ya, yc, za, zc, rfl, h1, h2, h3⟩; have H1 := Lib.hid h1; have H2 := Lib.hid h2; have H3 := Lib.hid h3; have hs3 := h3.size; clear h1 h2 h3)
  have HS1 := Lib.hid (small_calls t.id)
  have HS2 := Lib.hid (small_calls t.n)
  go_upto_region 4 with (first | (go_at_call 46; (with_reducible refine (HS1.out _).mono ?_); rintro e w' ⟨rfl, rfl⟩) | (go_at_call 46; (with_reducible refine (HS2.out _).mono ?_); rintro e w' ⟨rfl, rfl⟩))
  have hW3 := Below.alloc (Below.trans HW.out (H3.out.mono HW.out.size)) (HW.out.trans (H3.out.mono HW.out.size)).size (.cells #[.int .i64 t.kind, .int .i64 (sml t.id), .int .i64 (sml t.n), .bool t.good, .slice ya t.pr.length yc, .slice za t.dr.length zc, .string t.data] 24)
  have hM := heap_alloc_new w1 (.cells #[.int .i64 t.kind, .int .i64 (sml t.id), .int .i64 (sml t.n), .bool t.good, .slice ya t.pr.length yc, .slice za t.dr.length zc, .string t.data] 24)
  have hz3 := (Below.heap_alloc w1 (.cells #[.int .i64 t.kind, .int .i64 (sml t.id), .int .i64 (sml t.n), .bool t.good, .slice ya t.pr.length yc, .slice za t.dr.length zc, .string t.data] 24) (w.heap.size + 1) (by omega)).trans ((H3.out.block (w.heap.size + 1) hWs).trans HZ.out)
  have hy3 := H1.out.below ((Below.refl w1.heap.size w1).alloc (Nat.le_refl _) (.cells #[.int .i64 t.kind, .int .i64 (sml t.id), .int .i64 (sml t.n), .bool t.good, .slice ya t.pr.length yc, .slice za t.dr.length zc, .string t.data] 24)) (Nat.le_refl _) (Nat.le_refl _)
  have hd3 := H2.out.below ((Below.refl w1.heap.size w1).alloc (Nat.le_refl _) (.cells #[.int .i64 t.kind, .int .i64 (sml t.id), .int .i64 (sml t.n), .bool t.good, .slice ya t.pr.length yc, .slice za t.dr.length zc, .string t.data] 24)) (Nat.le_refl _) (Nat.le_refl _)
  have hs4 : (w1.alloc (.cells #[.int .i64 t.kind, .int .i64 (sml t.id), .int .i64 (sml t.n), .bool t.good, .slice ya t.pr.length yc, .slice za t.dr.length zc, .string t.data] 24)).heap.size = w1.heap.size + 1 := by simp
  generalize w1.alloc (.cells #[.int .i64 t.kind, .int .i64 (sml t.id), .int .i64 (sml t.n), .bool t.good, .slice ya t.pr.length yc, .slice za t.dr.length zc, .string t.data] 24) = W3 at hW3 hM hz3 hy3 hd3 hs4 ⊢
  have HW3 := Lib.hid hW3
  have HM := Lib.hid hM
  have HZ3 := Lib.hid hz3
  have HY3 := Lib.hid hy3
  have HD3 := Lib.hid hd3
  have HS4 := Lib.hid hs4
  clear hW3 hM hz3 hy3 hd3 hs4 c0 c1 c2 c3 c4 c5 c6
  go_wp2_with fail
  go_loopw [4, 5] (fun v i wr => ∃ k : Nat, k ≤ t.pr.length ∧ k ≤ 32 ∧ i = .int .i64 k ∧ wr.ownsRow W3.heap.size 3 1 v k (((t.pr.take k).map sml).map (.int .i64)) ∧ Below W3.heap.size W3 wr) (fun _ i _ => 40 - (intOf i).toNat)
  case atStart => exact ⟨0, by omega, by omega, rfl, World.ownsRow_made _ _ 0 (Nat.le_refl _) (by decide) rfl, (Below.refl _ _).alloc (Nat.le_refl _) _⟩
  case round =>
    obtain ⟨k, hk, hk32, rfl, hown, hb⟩ := hrel
    obtain ⟨va, vc, rfl, hvc, -⟩ := own_slice hown
    have hMr := (hb.block w1.heap.size (by rw [HS4.out]; omega)).trans HM.out
    obtain ⟨c0, c1, c2, c3, c4, c5, c6, -⟩ := cmd_cells (r := ⟨t.kind, sml t.id, sml t.n, t.good, t.pr, t.dr, t.data⟩) hMr
    have hsb := hb.size
    have HOW := Lib.hid hown
    have HB := Lib.hid hb
    clear hMr hown hb
    by_cases hgo : k < t.pr.length ∧ k < 32
    · obtain ⟨hlt, h32⟩ := hgo
      obtain ⟨g, o, rfl, hg1, hg2, hce⟩ := HY3.out.elem hlt
      have hcr := (Below.cell (p := ⟨g, o + k, none⟩) HB.out (by show g < _; rw [HS4.out]; omega)).trans hce
      obtain ⟨x, hx⟩ : ∃ x, t.pr.getD k 0 = x := ⟨_, rfl⟩
      rw [hx] at hcr
      have HX := Lib.hid hx
      have HSM := Lib.hid (small_calls x)
      have hle : W3.heap.size ≤ wr.heap.size := hsb
      clear hce hx
      go_wp2_with (first | (go_at_call 46; refine (HSM.out _).mono ?_; rintro e w' ⟨rfl, rfl⟩) | (at_builtin; refine wpList_app rfl _ _ 22 rfl elemInt W3.heap.size (.slice va k vc) k (((t.pr.take k).map sml).map (.int .i64)) rfl HOW.out 1 1 rfl rfl rfl (by decide) (by omega) (by decide) hle ?_; intro g2 cap w2 hown2 hgrow2 hg2; have HO2 := Lib.hid hown2; have HG2 := Lib.hid hgrow2; clear hown2 hgrow2))
      go_roundw
      case rel =>
        exact ⟨k + 1, by omega, by omega, by go_num, by rw [take_sml _ _ hlt, HX.out]; exact HO2.out, bel_grown HB.out HG2.out (Nat.le_refl _) (fun j hj => (HOW.out.lt j hj).1)⟩
      case measure => simp [intOf]; omega
    · have hway : (k < t.pr.length ∧ k = 32) ∨ k = t.pr.length := by omega
      have hP : (t.pr.take k).map sml = capS t.pr := by
        rcases hway with ⟨_, rfl⟩ | rfl
        · rfl
        · rw [capS, List.take_of_length_le (Nat.le_refl _), List.take_of_length_le (by omega)]
      have hPl : (capS t.pr).length = k := by rw [← hP, List.length_map, List.length_take]; omega
      have hsl : Sl wr W3.heap.size wr.heap.size (.slice va k vc) (capS t.pr) := by
        have h := HOW.out
        rw [hP] at h
        exact Sl.own (by rw [hPl]; omega) (by rw [hPl]; exact h)
      obtain ⟨VA, hVA⟩ : ∃ VA, VA = Value.slice va k vc := ⟨_, rfl⟩
      rw [← hVA] at hsl
      have HVA := Lib.hid hVA
      have HSL := Lib.hid hsl
      clear hVA
      have HPL := Lib.hid hPl
      clear hP hsl hPl hgo
      generalize wr = wo at *
      rcases hway with ⟨hlt, rfl⟩ | rfl
      all_goals
        go_wp2_with fail
        go_loopw [6, 7] (fun v i wr => ∃ j : Nat, j ≤ t.dr.length ∧ j ≤ 32 ∧ i = .int .i64 j ∧ wr.ownsRow wo.heap.size 3 1 v j (((t.dr.take j).map sml).map (.int .i64)) ∧ Below wo.heap.size wo wr) (fun _ i _ => 40 - (intOf i).toNat)
        case atStart => exact ⟨0, by omega, by omega, rfl, World.ownsRow_made _ _ 0 (Nat.le_refl _) (by decide) rfl, (Below.refl _ _).alloc (Nat.le_refl _) _⟩
        case round =>
          clear c0 c1 c2 c3 c4 c5 c6
          obtain ⟨j, hj, hj32, rfl, hown, hb⟩ := hrel
          obtain ⟨ua, uc, rfl, huc, -⟩ := own_slice hown
          have hbq := HB.out.trans (hb.mono hsb)
          have hMr := (hbq.block w1.heap.size (by rw [HS4.out]; omega)).trans HM.out
          obtain ⟨c0, c1, c2, c3, c4, c5, c6, cf⟩ := cmd_cells (r := ⟨t.kind, sml t.id, sml t.n, t.good, t.pr, t.dr, t.data⟩) hMr
          have hsq := hb.size
          have HOQ := Lib.hid hown
          have HBQ := Lib.hid hb
          have HBQ3 := Lib.hid hbq
          have HMR := Lib.hid hMr
          have f4 := cf 4
          have f5 := cf 5
          have f6 := cf 6
          clear hMr hown hb hbq cf
          by_cases hgo : j < t.dr.length ∧ j < 32
          · obtain ⟨hlt2, h32⟩ := hgo
            obtain ⟨g, o, rfl, hg1, hg2, hce⟩ := HD3.out.elem hlt2
            have hcr := (Below.cell (p := ⟨g, o + j, none⟩) HBQ3.out (by show g < _; rw [HS4.out]; omega)).trans hce
            obtain ⟨x, hx⟩ : ∃ x, t.dr.getD j 0 = x := ⟨_, rfl⟩
            rw [hx] at hcr
            have HX := Lib.hid hx
            have HSM := Lib.hid (small_calls x)
            clear hce hx
            go_wp2_with (first | (go_at_call 46; refine (HSM.out _).mono ?_; rintro e w' ⟨rfl, rfl⟩) | (at_builtin; refine wpList_app rfl _ _ 22 rfl elemInt wo.heap.size (.slice ua j uc) j (((t.dr.take j).map sml).map (.int .i64)) rfl HOQ.out 1 1 rfl rfl rfl (by decide) (by omega) (by decide) hsq ?_; intro g2 cap w2 hown2 hgrow2 hg2; have HO2 := Lib.hid hown2; have HG2 := Lib.hid hgrow2; clear hown2 hgrow2))
            go_roundw
            case rel =>
              exact ⟨j + 1, by omega, by omega, by go_num, by rw [take_sml _ _ hlt2, HX.out]; exact HO2.out, bel_grown HBQ.out HG2.out (Nat.le_refl _) (fun i hi => (HOQ.out.lt i hi).1)⟩
            case measure => simp [intOf]; omega
          · have hway : (j < t.dr.length ∧ j = 32) ∨ j = t.dr.length := by omega
            have hD : (t.dr.take j).map sml = capS t.dr := by
              rcases hway with ⟨_, rfl⟩ | rfl
              · rfl
              · rw [capS, List.take_of_length_le (Nat.le_refl _), List.take_of_length_le (by omega)]
            have hDl : (capS t.dr).length = j := by rw [← hD, List.length_map, List.length_take]; omega
            have hsd : Sl wr wo.heap.size wr.heap.size (.slice ua j uc) (capS t.dr) := by
              have h := HOQ.out
              rw [hD] at h
              exact Sl.own (by rw [hDl]; omega) (by rw [hDl]; exact h)
            obtain ⟨UA, hUA⟩ : ∃ UA, UA = Value.slice ua j uc := ⟨_, rfl⟩
            rw [← hUA] at hsd
            have HUA := Lib.hid hUA
            clear hUA
            have HSD := Lib.hid hsd
            have HDL := Lib.hid hDl
            have hres := (HBQ3.out.block (w.heap.size + 1) (by rw [HS4.out]; omega)).trans HZ3.out
            have HRES := Lib.hid hres
            clear hD hsd hDl hgo hres
            have hds : t.data.size ≤ 1024 ∨ 1024 < t.data.size := by omega
            rcases hway with ⟨hlt2, rfl⟩ | rfl
            all_goals
              go_upto_region 17 with fail
              obtain ⟨W5, h5, h5m, h5z, h5b, h5k, h5s⟩ := set3 (w := w) (N := w.heap.size + 1) (M := w1.heap.size) (t := ⟨t.kind, sml t.id, sml t.n, t.good, t.pr, t.dr, t.data⟩) (p := .slice ya t.pr.length yc) (d := .slice za t.dr.length zc) (p' := VA) (d' := UA) (s := t.data.extract 0 (min (t.data.size : Int) 1024).toNat) HMR.out HRES.out (by have := H3.out.size; omega) (Nat.le_succ _) (by have := H3.out.size; omega) (HW3.out.trans (HBQ3.out.mono HW3.out.size))
              rw [HVA.out, HUA.out] at h5
              rw [h5]
              have a1 := HSL.out.move (A' := W3.heap.size) (B' := W5.heap.size) (w' := W5) (Nat.le_refl _) (by omega) (fun k h1 h2 => (h5k k (by have := HS4.out; omega)).trans (HBQ.out.block k h2))
              have a2 := HSD.out.move (A' := W3.heap.size) (B' := W5.heap.size) (w' := W5) hsb (by omega) (fun k h1 h2 => h5k k (by have := HS4.out; omega))
              have hfin := fit_end (w := w) (N := w.heap.size + 1) (c := ⟨t.kind, sml t.id, sml t.n, t.good, capS t.pr, capS t.dr, t.data.extract 0 (min (t.data.size : Int) 1024).toNat⟩) h5z (Nat.le_succ _) h5b (A := W3.heap.size) (by have := HS4.out; omega) (by have := HS4.out; omega) a1 a2
              obtain ⟨c0, c1, c2, c3, c4, c5, c6, -⟩ := cmd_cells (r := ⟨t.kind, sml t.id, sml t.n, t.good, t.pr, t.dr, t.data.extract 0 (min (t.data.size : Int) 1024).toNat⟩) h5m
              obtain ⟨y0, y1, y2, y3, y4, y5, y6, yf⟩ := cmd_cells h5z
              have f0 := yf 0
              have f1 := yf 1
              have f2 := yf 2
              have f3 := yf 3
              have f4 := yf 4
              have f5 := yf 5
              have f6 := yf 6
              have HF := Lib.hid hfin
              clear h5 h5m h5z h5b h5k h5s a1 a2 hfin yf
              obtain rfl := HVA.out
              obtain rfl := HUA.out
              go_wp2
              obtain ⟨g1, g2, g3, g4⟩ := HF.out
              unfold put7 at g1 g2 g3 g4
              dsimp only at g1 g2 g3 g4
              refine bodyPost_ret (results_cell_row rfl _ _ (w.heap.size + 1) 24 (Cmd.vals ⟨t.kind, sml t.id, sml t.n, t.good, capS t.pr, capS t.dr, t.data.extract 0 (min (t.data.size : Int) 1024).toNat⟩ _ _) (0, 0) _ rfl g1 Try.underlying24 rfl (by kernel_rfl)) rfl ?_
              exact ⟨_, _, rfl, g2, g3, g4⟩
end Go.Proofs.Ytbedamkeeongfaa
