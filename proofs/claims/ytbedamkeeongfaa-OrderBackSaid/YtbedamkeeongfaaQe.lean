/- The walk of OrderBack. -/
import Derived.Test.YtbedamkeeongfaaQd
import Derived.Deep.RegionHeld3
namespace Go.Proofs.Ytbedamkeeongfaa
open Go.RowKit Go.Proofs.Ytbedamkeeongfaa.Mem
set_option linter.unusedVariables false

theorem bel_next' {w W W' : World} (h : Below w.heap.size w W) (k : Below W.heap.size W W') : Below w.heap.size w W' := h.trans (k.mono h.size)

theorem great_lit (c : Cmd) (p d : Value) (g : Bool) (hg : greatB c = g) (w W : World) (hb : Below w.heap.size w W) (hp : SlW w p c.pr) (hd : SlW w d c.dr) :
    Calls Try.prog 6 #[.agg #[.int .i64 c.kind, .int .i64 c.id, .int .i64 c.n, .bool c.good, p, d, .string c.data]] W fun e w' => e = .returned (.bool g) ∧ Below W.heap.size W w' := by
  rw [← hg]
  exact great_any c p d W (hp.below hb) (hd.below hb)

set_option maxRecDepth 100000 in
set_option maxHeartbeats 4000000 in
theorem orderBack_walk (a b : Cmd) (p d p' d' : Value) (w : World) (hp : SlW w p a.pr) (hd : SlW w d a.dr) (hp' : SlW w p' b.pr) (hd' : SlW w d' b.dr) :
    Calls Try.prog 4 #[.agg (a.vals p d), .agg (b.vals p' d')] w fun e w' => e = .returned (.bool true) ∧ Below w.heap.size w w' := by
  obtain ⟨pa, pc, rfl⟩ := hp.slice
  obtain ⟨da, dc, rfl⟩ := hd.slice
  obtain ⟨qa, qc, rfl⟩ := hp'.slice
  obtain ⟨ga, gc, rfl⟩ := hd'.slice
  have HP := Lib.hid hp
  have HD := Lib.hid hd
  have HP' := Lib.hid hp'
  have HD' := Lib.hid hd'
  clear hp hd hp' hd'
  go_enter Try.func4, Try.ntmps4
  go_upto_region 1 with fail
  (try simp only [Act.put, List.setIfInBounds_toArray, List.set_cons_zero, List.set_cons_succ])
  have hW : Below w.heap.size w ((w.alloc (.cells (a.vals (.slice pa a.pr.length pc) (.slice da a.dr.length dc)) 24)).alloc (.cells (b.vals (.slice qa b.pr.length qc) (.slice ga b.dr.length gc)) 24)) := ((Below.refl _ w).alloc (Nat.le_refl _) _).alloc (by simp) _
  have ha : ((w.alloc (.cells (a.vals (.slice pa a.pr.length pc) (.slice da a.dr.length dc)) 24)).alloc (.cells (b.vals (.slice qa b.pr.length qc) (.slice ga b.dr.length gc)) 24)).heap[w.heap.size]? = some (.cells (a.vals (.slice pa a.pr.length pc) (.slice da a.dr.length dc)) 24 (0, 0)) := heap_two _ _ _
  have hb : ((w.alloc (.cells (a.vals (.slice pa a.pr.length pc) (.slice da a.dr.length dc)) 24)).alloc (.cells (b.vals (.slice qa b.pr.length qc) (.slice ga b.dr.length gc)) 24)).heap[w.heap.size + 1]? = some (.cells (b.vals (.slice qa b.pr.length qc) (.slice ga b.dr.length gc)) 24 (0, 0)) := heap_alloc_new2 _ _ _
  generalize (w.alloc (.cells (a.vals (.slice pa a.pr.length pc) (.slice da a.dr.length dc)) 24)).alloc (.cells (b.vals (.slice qa b.pr.length qc) (.slice ga b.dr.length gc)) 24) = W0 at hW ha hb ⊢
  have HW := Lib.hid hW
  have HA := Lib.hid ha
  have HB := Lib.hid hb
  have hl2 := lt_of_block hb
  clear hW ha hb
  go_upto_region 3 with (go_at_call 5; refine (awake29 _).mono ?_; rintro e W1 ⟨rfl, h1⟩; have H1 := Lib.hid h1; clear h1)
  have hW1 := Lib.hid (bel_next' HW.out H1.out)
  have HA1 := Lib.hid ((H1.out.block _ (by omega)).trans HA.out)
  have HB1 := Lib.hid ((H1.out.block _ hl2).trans HB.out)
  obtain ⟨c0, c1, c2, c3, c4, c5, c6, -⟩ := cmd_cells HA1.out
  obtain ⟨e0, e1, e2, e3, e4, e5, e6, -⟩ := cmd_cells HB1.out
  have hl1 := lt_of_block HB1.out
  obtain ⟨gA, hgA⟩ : ∃ g, greatB a = g := ⟨_, rfl⟩
  obtain ⟨gB, hgB⟩ : ∃ g, greatB b = g := ⟨_, rfl⟩
  have HG := Lib.hid (fun (W : World) (h : Below w.heap.size w W) => great_lit a (.slice pa a.pr.length pc) (.slice da a.dr.length dc) gA hgA w W h HP.out HD.out)
  have HG' := Lib.hid (fun (W : World) (h : Below w.heap.size w W) => great_lit b (.slice qa b.pr.length qc) (.slice ga b.dr.length gc) gB hgB w W h HP'.out HD'.out)
  have HGA := Lib.hid hgA
  have HGB := Lib.hid hgB
  clear hgA hgB
  cases gA with
  | true =>
    go_wp2_with (go_at_call 6; refine (HG.out _ hW1.out).mono ?_; rintro e W2 ⟨rfl, h2⟩; have H2 := Lib.hid h2; clear h2)
    go_ret
    exact ⟨rfl, bel_next' hW1.out H2.out⟩
  | false =>
    cases gB with
    | true =>
      go_wp2_with (first
        | (go_at_call 6; (with_reducible refine (HG.out _ hW1.out).mono ?_); rintro e W2 ⟨rfl, h2⟩; have hA2 := (h2.block _ (by omega)).trans HA1.out; have hB2 := (h2.block _ hl1).trans HB1.out; obtain ⟨d0, d1, d2, d3, d4, d5, d6, -⟩ := cmd_cells hB2; have H2 := Lib.hid (bel_next' hW1.out h2); clear h2 hA2 hB2)
        | (go_at_call 6; (with_reducible refine (HG'.out _ H2.out).mono ?_); rintro e W3 ⟨rfl, h3⟩; have H3 := Lib.hid h3; clear h3))
      go_ret
      exact ⟨rfl, bel_next' H2.out H3.out⟩
    | false =>
      go_upto_region 5 with (first
        | (go_at_call 6; (with_reducible refine (HG.out _ hW1.out).mono ?_); rintro e W2 ⟨rfl, h2⟩; have hA2 := (h2.block _ (by omega)).trans HA1.out; have hB2 := (h2.block _ hl1).trans HB1.out; obtain ⟨d0, d1, d2, d3, d4, d5, d6, -⟩ := cmd_cells hB2; have hs2 := h2.size; have H2 := Lib.hid (bel_next' hW1.out h2); have HA2 := Lib.hid hA2; have HB2 := Lib.hid hB2; clear h2 hA2 hB2)
        | (go_at_call 6; (with_reducible refine (HG'.out _ H2.out).mono ?_); rintro e W3 ⟨rfl, h3⟩; have hA3 := (h3.block _ (by omega)).trans HA2.out; have hB3 := (h3.block _ (by omega)).trans HB2.out; have hs3 := h3.size; have H3 := Lib.hid (bel_next' H2.out h3); have HA3 := Lib.hid hA3; have HB3 := Lib.hid hB3; clear h3 hA3 hB3))
      clear c0 c1 c2 c3 c4 c5 c6 d0 d1 d2 d3 d4 d5 d6 e0 e1 e2 e3 e4 e5 e6 hs2 hs3
      have sm := trim_small HGA.out
      have sm' := trim_small HGB.out
      have hpr : (a.pr.length : Int) ≤ 40 ∧ (a.dr.length : Int) ≤ 40 := by have h := HGA.out; simp only [greatB, Bool.or_eq_false_iff, decide_eq_false_iff_not] at h; omega
      have hpr' : (b.pr.length : Int) ≤ 40 ∧ (b.dr.length : Int) ≤ 40 := by have h := HGB.out; simp only [greatB, Bool.or_eq_false_iff, decide_eq_false_iff_not] at h; omega
      have hfa := fun (W : World) (h : Below w.heap.size w W) => fit_lit a (.slice pa a.pr.length pc) (.slice da a.dr.length dc) W ((HP.out.below h).sl (by omega)) ((HD.out.below h).sl (by omega)) HGA.out
      have hfb := fun (W : World) (h : Below w.heap.size w W) => fit_lit b (.slice qa b.pr.length qc) (.slice ga b.dr.length gc) W ((HP'.out.below h).sl (by omega)) ((HD'.out.below h).sl (by omega)) HGB.out
      have kx := good_or a (fit_zero a)
      have ky := good_or b (fit_zero b)
      generalize a.fit = x at hfa kx
      generalize b.fit = y at hfb ky
      have HFA := Lib.hid hfa
      have HFB := Lib.hid hfb
      have KX := Lib.hid kx; have KY := Lib.hid ky
      clear hfa hfb kx ky sm sm' hpr hpr'
      obtain ⟨c0, c1, c2, c3, c4, c5, c6, -⟩ := cmd_cells HA3.out
      go_upto_region 6 with (go_at_call 21; (with_reducible refine (HFA.out _ H3.out).mono ?_); rintro e W4 ⟨xpa, xpc, xda, xdc, rfl, h4, h5, h6⟩; have hs6 := h6.size; have HX4 := Lib.hid h4; have HX5 := Lib.hid h5; have HX6 := Lib.hid h6; clear h4 h5 h6)
      have hb4 := HX6.out
      have hB4 := (hb4.block _ (lt_of_block HB3.out)).trans HB3.out
      have hal : Below W4.heap.size W4 (W4.alloc (.cells #[.int .i64 x.kind, .int .i64 x.id, .int .i64 x.n, .bool x.good, .slice xpa x.pr.length xpc, .slice xda x.dr.length xdc, .string x.data] 24)) := (Below.refl _ _).alloc (Nat.le_refl _) _
      have hX5 : (W4.alloc (.cells #[.int .i64 x.kind, .int .i64 x.id, .int .i64 x.n, .bool x.good, .slice xpa x.pr.length xpc, .slice xda x.dr.length xdc, .string x.data] 24)).heap[W4.heap.size]? = some (.cells (x.vals (.slice xpa x.pr.length xpc) (.slice xda x.dr.length xdc)) 24 (0, 0)) := heap_alloc_new _ _
      generalize W4.alloc (.cells #[.int .i64 x.kind, .int .i64 x.id, .int .i64 x.n, .bool x.good, .slice xpa x.pr.length xpc, .slice xda x.dr.length xdc, .string x.data] 24) = W5 at hal hX5 ⊢
      have HB5 := Lib.hid ((hal.block _ (lt_of_block hB4)).trans hB4)
      have hsx := Lib.hid (HX4.out.below hal (Nat.le_refl _) hal.size)
      have htx := Lib.hid (HX5.out.below hal (Nat.le_refl _) hal.size)
      have HX := Lib.hid hX5
      have H5 := Lib.hid (bel_next' (bel_next' H3.out hb4) hal)
      clear c0 c1 c2 c3 c4 c5 c6 hb4 hB4 hal hX5 hs6
      obtain ⟨c0, c1, c2, c3, c4, c5, c6, -⟩ := cmd_cells HB5.out
      go_upto_region 7 with (go_at_call 21; (with_reducible refine (HFB.out _ H5.out).mono ?_); rintro e W6 ⟨ypa, ypc, yda, ydc, rfl, h4, h5, h6⟩; have HY4 := Lib.hid h4; have HY5 := Lib.hid h5; have HY6 := Lib.hid h6; clear h4 h5 h6)
      have hb6 := HY6.out
      have hX6 := (hb6.block _ (lt_of_block HX.out)).trans HX.out
      have hal : Below W6.heap.size W6 (W6.alloc (.cells #[.int .i64 y.kind, .int .i64 y.id, .int .i64 y.n, .bool y.good, .slice ypa y.pr.length ypc, .slice yda y.dr.length ydc, .string y.data] 24)) := (Below.refl _ _).alloc (Nat.le_refl _) _
      have hY7 : (W6.alloc (.cells #[.int .i64 y.kind, .int .i64 y.id, .int .i64 y.n, .bool y.good, .slice ypa y.pr.length ypc, .slice yda y.dr.length ydc, .string y.data] 24)).heap[W6.heap.size]? = some (.cells (y.vals (.slice ypa y.pr.length ypc) (.slice yda y.dr.length ydc)) 24 (0, 0)) := heap_alloc_new _ _
      generalize W6.alloc (.cells #[.int .i64 y.kind, .int .i64 y.id, .int .i64 y.n, .bool y.good, .slice ypa y.pr.length ypc, .slice yda y.dr.length ydc, .string y.data] 24) = W7 at hal hY7 ⊢
      have htwo : Two x y (.slice xpa x.pr.length xpc) (.slice xda x.dr.length xdc) (.slice ypa y.pr.length ypc) (.slice yda y.dr.length ydc) W4.heap.size W6.heap.size W7 :=
        ⟨(hal.block _ (lt_of_block hX6)).trans hX6, hY7, (hsx.out.below hb6 (Nat.le_refl _) hb6.size).below hal (Nat.le_refl _) hal.size, (htx.out.below hb6 (Nat.le_refl _) hb6.size).below hal (Nat.le_refl _) hal.size, HY4.out.below hal (Nat.le_refl _) hal.size, HY5.out.below hal (Nat.le_refl _) hal.size⟩
      have HT := Lib.hid htwo
      have H7 := Lib.hid (bel_next' (bel_next' H5.out hb6) hal)
      clear c0 c1 c2 c3 c4 c5 c6 hb6 hX6 hal hY7 htwo
      obtain ⟨c0, c1, c2, c3, c4, c5, c6, -⟩ := cmd_cells HT.out.bx
      obtain ⟨d0, d1, d2, d3, d4, d5, d6, -⟩ := cmd_cells HT.out.by_
      rcases KX.out with ⟨gx, tx⟩ | ⟨gx, tx⟩
      · rcases KY.out with ⟨gy, ty⟩ | ⟨gy, ty⟩
        · obtain ⟨q, hq⟩ : ∃ q : Bool, q = true ↔ x = y := by
            by_cases h : x = y
            · exact ⟨true, by simp [h]⟩
            · exact ⟨false, by simp [h]⟩
          have hst := enc_beq x y gx gy q hq
          have HQ := Lib.hid hq
          have GX := Lib.hid gx
          have GY := Lib.hid gy
          have HBX := Lib.hid (fun W (h : Below W7.heap.size W7 W) => bytes_bs x (.slice xpa x.pr.length xpc) (.slice xda x.dr.length xdc) W (HT.out.below h).sx (HT.out.below h).tx gx)
          have HBY := Lib.hid (fun W (h : Below W7.heap.size W7 W) => bytes_bs y (.slice ypa y.pr.length ypc) (.slice yda y.dr.length ydc) W (HT.out.below h).sy (HT.out.below h).ty gy)
          have HPX := Lib.hid (fun W => parse_good x W gx)
          obtain ⟨S1, hS1⟩ : ∃ S, bs (enc x) = S := ⟨_, rfl⟩
          obtain ⟨S2, hS2⟩ : ∃ S, bs (enc y) = S := ⟨_, rfl⟩
          rw [hS1] at HBX HPX hst
          rw [hS2] at HBY hst
          clear gx gy hq hS1 hS2
          go_upto_region 12 with (first
            | (go_at_call 9; (with_reducible refine (HBX.out _ (Below.refl _ _)).mono ?_); rintro e W8 ⟨rfl, h8⟩; obtain ⟨e0, e1, e2, e3, e4, e5, e6, -⟩ := cmd_cells (HT.out.below h8).by_; have H8 := Lib.hid h8; clear h8)
            | (go_at_call 9; (with_reducible refine (HBY.out _ H8.out).mono ?_); rintro e W9 ⟨rfl, h9⟩; have H9 := Lib.hid (bel_next' H8.out h9); clear h9)
            | (go_at_call 19; (with_reducible refine (HPX.out _).mono ?_); rintro e W10 ⟨zpa, zpc, zda, zdc, rfl, h1, h2, h10⟩; have HZ1 := Lib.hid h1; have HZ2 := Lib.hid h2; have H10 := Lib.hid (bel_next' H9.out h10); clear h1 h2 h10))
          have hal : Below W10.heap.size W10 (W10.alloc (.cells #[.int .i64 x.kind, .int .i64 x.id, .int .i64 x.n, .bool x.good, .slice zpa x.pr.length zpc, .slice zda x.dr.length zdc, .string x.data] 24)) := (Below.refl _ _).alloc (Nat.le_refl _) _
          have hZ11 : (W10.alloc (.cells #[.int .i64 x.kind, .int .i64 x.id, .int .i64 x.n, .bool x.good, .slice zpa x.pr.length zpc, .slice zda x.dr.length zdc, .string x.data] 24)).heap[W10.heap.size]? = some (.cells (x.vals (.slice zpa x.pr.length zpc) (.slice zda x.dr.length zdc)) 24 (0, 0)) := heap_alloc_new _ _
          generalize W10.alloc (.cells #[.int .i64 x.kind, .int .i64 x.id, .int .i64 x.n, .bool x.good, .slice zpa x.pr.length zpc, .slice zda x.dr.length zdc, .string x.data] 24) = W11 at hal hZ11 ⊢
          have h11 := bel_next' H10.out hal
          have HT11 := Lib.hid (HT.out.below h11)
          have HZ3 := Lib.hid (HZ1.out.below hal (Nat.le_refl _) hal.size)
          have HZ4 := Lib.hid (HZ2.out.below hal (Nat.le_refl _) hal.size)
          have HZ := Lib.hid hZ11
          have H11 := Lib.hid (bel_next' H7.out h11)
          clear hal hZ11 h11 c0 c1 c2 c3 c4 c5 c6 d0 d1 d2 d3 d4 d5 d6 e0 e1 e2 e3 e4 e5 e6
          obtain ⟨c0, c1, c2, c3, c4, c5, c6, -⟩ := cmd_cells HT11.out.bx
          obtain ⟨d0, d1, d2, d3, d4, d5, d6, -⟩ := cmd_cells HZ.out
          have HS1 := Lib.hid (same_is x x (.slice zpa x.pr.length zpc) (.slice zda x.dr.length zdc) (.slice xpa x.pr.length xpc) (.slice xda x.dr.length xdc) true (by simp) W11 HZ3.out HZ4.out HT11.out.sx HT11.out.tx)
          have HS2 := Lib.hid (fun W (h : Below W11.heap.size W11 W) => same_is x y (.slice xpa x.pr.length xpc) (.slice xda x.dr.length xdc) (.slice ypa y.pr.length ypc) (.slice yda y.dr.length ydc) q HQ.out W (HT11.out.below h).sx (HT11.out.below h).tx (HT11.out.below h).sy (HT11.out.below h).ty)
          go_upto_region 14 with (first
            | (go_at_call 15; (with_reducible refine HS1.out.mono ?_); rintro e W12 ⟨rfl, h12⟩; obtain ⟨e0, e1, e2, e3, e4, e5, e6, -⟩ := cmd_cells (HT11.out.below h12).bx; obtain ⟨f0, f1, f2, f3, f4, f5, f6, -⟩ := cmd_cells (HT11.out.below h12).by_; have H12 := Lib.hid h12; clear h12)
            | (go_at_call 15; (with_reducible refine (HS2.out _ H12.out).mono ?_); rintro e W13 ⟨rfl, h13⟩; have H13 := Lib.hid (bel_next' H12.out h13); clear h13))
          have hT13 := HT11.out.below H13.out
          have hall := all3 hT13 GX.out GY.out
          have hsplit := split_calls [x, y, x]
          obtain ⟨S3, hS3⟩ : ∃ S, bs (allB [x, y, x]) = S := ⟨_, rfl⟩
          have hsp := fun W => hsplit W (by simp) (by simp) (by intro c hc; simp at hc; rcases hc with rfl | rfl | rfl <;> first | exact GX.out | exact GY.out)
          rw [hS3] at hall hsp
          have HALL := Lib.hid hall
          have HSP := Lib.hid hsp
          have HT13 := Lib.hid hT13
          clear hall hsp hsplit hT13 hS3 c0 c1 c2 c3 c4 c5 c6 d0 d1 d2 d3 d4 d5 d6 e0 e1 e2 e3 e4 e5 e6 f0 f1 f2 f3 f4 f5 f6
          obtain ⟨c0, c1, c2, c3, c4, c5, c6, -⟩ := cmd_cells HT13.out.bx
          obtain ⟨d0, d1, d2, d3, d4, d5, d6, -⟩ := cmd_cells HT13.out.by_
          go_upto_region 16 with (first
            | (go_at_call 22; (with_reducible refine HALL.out.mono ?_); rintro e W15 ⟨rfl, h15⟩; have H15 := Lib.hid h15; clear h15)
            | (go_at_call 23; (with_reducible refine (HSP.out _).mono ?_); rintro e W16 ⟨lb, lcap, rfl, hcoms, h16⟩; have H16 := Lib.hid h16; have HCO := Lib.hid hcoms; clear h16 hcoms))
          have hb16 := bel_next' H13.out (bel_next' H15.out H16.out)
          have hT16 := HT11.out.below hb16
          have hb := bel_next' H11.out hb16
          obtain ⟨hlb, hco⟩ := HCO.out
          obtain ⟨l0p, l0d, s0p, s0d, m0_0, m0_1, m0_2, m0_3, m0_4, m0_5, m0_6⟩ := hco 0 x rfl
          obtain ⟨l1p, l1d, s1p, s1d, m1_0, m1_1, m1_2, m1_3, m1_4, m1_5, m1_6⟩ := hco 1 y rfl
          obtain ⟨l2p, l2d, s2p, s2d, m2_0, m2_1, m2_2, m2_3, m2_4, m2_5, m2_6⟩ := hco 2 x rfl
          obtain ⟨l0pa, l0pc, rfl⟩ := s0p.slice
          obtain ⟨l0da, l0dc, rfl⟩ := s0d.slice
          obtain ⟨l1pa, l1pc, rfl⟩ := s1p.slice
          obtain ⟨l1da, l1dc, rfl⟩ := s1d.slice
          obtain ⟨l2pa, l2pc, rfl⟩ := s2p.slice
          obtain ⟨l2da, l2dc, rfl⟩ := s2d.slice
          simp only [Nat.zero_add, Nat.zero_mul, Nat.one_mul, Nat.add_zero, Nat.reduceMul, Nat.reduceAdd] at m0_0 m0_1 m0_2 m0_3 m0_4 m0_5 m0_6 m1_0 m1_1 m1_2 m1_3 m1_4 m1_5 m1_6 m2_0 m2_1 m2_2 m2_3 m2_4 m2_5 m2_6
          clear c0 c1 c2 c3 c4 c5 c6 d0 d1 d2 d3 d4 d5 d6
          obtain ⟨x_0, x_1, x_2, x_3, x_4, x_5, x_6, -⟩ := cmd_cells hT16.bx
          obtain ⟨y_0, y_1, y_2, y_3, y_4, y_5, y_6, -⟩ := cmd_cells hT16.by_
          have HS0' := Lib.hid (fun W (h : Below W16.heap.size W16 W) => same_is x x (.slice l0pa x.pr.length l0pc) (.slice l0da x.dr.length l0dc) (.slice xpa x.pr.length xpc) (.slice xda x.dr.length xdc) true (by simp) W (s0p.below h (Nat.le_refl _) (Nat.le_refl _)) (s0d.below h (Nat.le_refl _) (Nat.le_refl _)) (hT16.below h).sx (hT16.below h).tx)
          have HS1' := Lib.hid (fun W (h : Below W16.heap.size W16 W) => same_is y y (.slice l1pa y.pr.length l1pc) (.slice l1da y.dr.length l1dc) (.slice ypa y.pr.length ypc) (.slice yda y.dr.length ydc) true (by simp) W (s1p.below h (Nat.le_refl _) (Nat.le_refl _)) (s1d.below h (Nat.le_refl _) (Nat.le_refl _)) (hT16.below h).sy (hT16.below h).ty)
          have HS2' := Lib.hid (fun W (h : Below W16.heap.size W16 W) => same_is x x (.slice l2pa x.pr.length l2pc) (.slice l2da x.dr.length l2dc) (.slice xpa x.pr.length xpc) (.slice xda x.dr.length xdc) true (by simp) W (s2p.below h (Nat.le_refl _) (Nat.le_refl _)) (s2d.below h (Nat.le_refl _) (Nat.le_refl _)) (hT16.below h).sx (hT16.below h).tx)
          have HBE := Lib.hid hb
          have hnx : ∀ W, Below W16.heap.size W16 W → Below W16.heap.size W16 W ∧ W.cell? ⟨lb, 0, none⟩ = some (.int .i64 x.kind) ∧ W.cell? ⟨lb, 1, none⟩ = some (.int .i64 x.id) ∧ W.cell? ⟨lb, 2, none⟩ = some (.int .i64 x.n) ∧ W.cell? ⟨lb, 3, none⟩ = some (.bool x.good) ∧ W.cell? ⟨lb, 4, none⟩ = some ((.slice l0pa x.pr.length l0pc)) ∧ W.cell? ⟨lb, 5, none⟩ = some ((.slice l0da x.dr.length l0dc)) ∧ W.cell? ⟨lb, 6, none⟩ = some (.string x.data) ∧ W.cell? ⟨lb, 7, none⟩ = some (.int .i64 y.kind) ∧ W.cell? ⟨lb, 8, none⟩ = some (.int .i64 y.id) ∧ W.cell? ⟨lb, 9, none⟩ = some (.int .i64 y.n) ∧ W.cell? ⟨lb, 10, none⟩ = some (.bool y.good) ∧ W.cell? ⟨lb, 11, none⟩ = some ((.slice l1pa y.pr.length l1pc)) ∧ W.cell? ⟨lb, 12, none⟩ = some ((.slice l1da y.dr.length l1dc)) ∧ W.cell? ⟨lb, 13, none⟩ = some (.string y.data) ∧ W.cell? ⟨lb, 14, none⟩ = some (.int .i64 x.kind) ∧ W.cell? ⟨lb, 15, none⟩ = some (.int .i64 x.id) ∧ W.cell? ⟨lb, 16, none⟩ = some (.int .i64 x.n) ∧ W.cell? ⟨lb, 17, none⟩ = some (.bool x.good) ∧ W.cell? ⟨lb, 18, none⟩ = some ((.slice l2pa x.pr.length l2pc)) ∧ W.cell? ⟨lb, 19, none⟩ = some ((.slice l2da x.dr.length l2dc)) ∧ W.cell? ⟨lb, 20, none⟩ = some (.string x.data) ∧ W.cell? ⟨W4.heap.size, 0, none⟩ = some (.int .i64 x.kind) ∧ W.cell? ⟨W4.heap.size, 1, none⟩ = some (.int .i64 x.id) ∧ W.cell? ⟨W4.heap.size, 2, none⟩ = some (.int .i64 x.n) ∧ W.cell? ⟨W4.heap.size, 3, none⟩ = some (.bool x.good) ∧ W.cell? ⟨W4.heap.size, 4, none⟩ = some ((.slice xpa x.pr.length xpc)) ∧ W.cell? ⟨W4.heap.size, 5, none⟩ = some ((.slice xda x.dr.length xdc)) ∧ W.cell? ⟨W4.heap.size, 6, none⟩ = some (.string x.data) ∧ W.cell? ⟨W6.heap.size, 0, none⟩ = some (.int .i64 y.kind) ∧ W.cell? ⟨W6.heap.size, 1, none⟩ = some (.int .i64 y.id) ∧ W.cell? ⟨W6.heap.size, 2, none⟩ = some (.int .i64 y.n) ∧ W.cell? ⟨W6.heap.size, 3, none⟩ = some (.bool y.good) ∧ W.cell? ⟨W6.heap.size, 4, none⟩ = some ((.slice ypa y.pr.length ypc)) ∧ W.cell? ⟨W6.heap.size, 5, none⟩ = some ((.slice yda y.dr.length ydc)) ∧ W.cell? ⟨W6.heap.size, 6, none⟩ = some (.string y.data) := fun W h => ⟨h, bcell' h m0_0, bcell' h m0_1, bcell' h m0_2, bcell' h m0_3, bcell' h m0_4, bcell' h m0_5, bcell' h m0_6, bcell' h m1_0, bcell' h m1_1, bcell' h m1_2, bcell' h m1_3, bcell' h m1_4, bcell' h m1_5, bcell' h m1_6, bcell' h m2_0, bcell' h m2_1, bcell' h m2_2, bcell' h m2_3, bcell' h m2_4, bcell' h m2_5, bcell' h m2_6, bcell' h x_0, bcell' h x_1, bcell' h x_2, bcell' h x_3, bcell' h x_4, bcell' h x_5, bcell' h x_6, bcell' h y_0, bcell' h y_1, bcell' h y_2, bcell' h y_3, bcell' h y_4, bcell' h y_5, bcell' h y_6⟩
          have HNX := Lib.hid hnx
          have hst := hnx W16 (Below.refl _ _)
          clear hnx s0p s0d s1p s1d s2p s2d hT16 hb hb16 hco hlb m0_0 m0_1 m0_2 m0_3 m0_4 m0_5 m0_6 m1_0 m1_1 m1_2 m1_3 m1_4 m1_5 m1_6 m2_0 m2_1 m2_2 m2_3 m2_4 m2_5 m2_6 x_0 x_1 x_2 x_3 x_4 x_5 x_6 y_0 y_1 y_2 y_3 y_4 y_5 y_6
          obtain ⟨hbb, m0_0, m0_1, m0_2, m0_3, m0_4, m0_5, m0_6, m1_0, m1_1, m1_2, m1_3, m1_4, m1_5, m1_6, m2_0, m2_1, m2_2, m2_3, m2_4, m2_5, m2_6, x_0, x_1, x_2, x_3, x_4, x_5, x_6, y_0, y_1, y_2, y_3, y_4, y_5, y_6⟩ := hst
          have hbd := hbb.drew
          go_region_held3 (fun W' => Below W16.heap.size W16 W' ∧ W'.cell? ⟨lb, 0, none⟩ = some (.int .i64 x.kind) ∧ W'.cell? ⟨lb, 1, none⟩ = some (.int .i64 x.id) ∧ W'.cell? ⟨lb, 2, none⟩ = some (.int .i64 x.n) ∧ W'.cell? ⟨lb, 3, none⟩ = some (.bool x.good) ∧ W'.cell? ⟨lb, 4, none⟩ = some ((.slice l0pa x.pr.length l0pc)) ∧ W'.cell? ⟨lb, 5, none⟩ = some ((.slice l0da x.dr.length l0dc)) ∧ W'.cell? ⟨lb, 6, none⟩ = some (.string x.data) ∧ W'.cell? ⟨lb, 7, none⟩ = some (.int .i64 y.kind) ∧ W'.cell? ⟨lb, 8, none⟩ = some (.int .i64 y.id) ∧ W'.cell? ⟨lb, 9, none⟩ = some (.int .i64 y.n) ∧ W'.cell? ⟨lb, 10, none⟩ = some (.bool y.good) ∧ W'.cell? ⟨lb, 11, none⟩ = some ((.slice l1pa y.pr.length l1pc)) ∧ W'.cell? ⟨lb, 12, none⟩ = some ((.slice l1da y.dr.length l1dc)) ∧ W'.cell? ⟨lb, 13, none⟩ = some (.string y.data) ∧ W'.cell? ⟨lb, 14, none⟩ = some (.int .i64 x.kind) ∧ W'.cell? ⟨lb, 15, none⟩ = some (.int .i64 x.id) ∧ W'.cell? ⟨lb, 16, none⟩ = some (.int .i64 x.n) ∧ W'.cell? ⟨lb, 17, none⟩ = some (.bool x.good) ∧ W'.cell? ⟨lb, 18, none⟩ = some ((.slice l2pa x.pr.length l2pc)) ∧ W'.cell? ⟨lb, 19, none⟩ = some ((.slice l2da x.dr.length l2dc)) ∧ W'.cell? ⟨lb, 20, none⟩ = some (.string x.data) ∧ W'.cell? ⟨W4.heap.size, 0, none⟩ = some (.int .i64 x.kind) ∧ W'.cell? ⟨W4.heap.size, 1, none⟩ = some (.int .i64 x.id) ∧ W'.cell? ⟨W4.heap.size, 2, none⟩ = some (.int .i64 x.n) ∧ W'.cell? ⟨W4.heap.size, 3, none⟩ = some (.bool x.good) ∧ W'.cell? ⟨W4.heap.size, 4, none⟩ = some ((.slice xpa x.pr.length xpc)) ∧ W'.cell? ⟨W4.heap.size, 5, none⟩ = some ((.slice xda x.dr.length xdc)) ∧ W'.cell? ⟨W4.heap.size, 6, none⟩ = some (.string x.data) ∧ W'.cell? ⟨W6.heap.size, 0, none⟩ = some (.int .i64 y.kind) ∧ W'.cell? ⟨W6.heap.size, 1, none⟩ = some (.int .i64 y.id) ∧ W'.cell? ⟨W6.heap.size, 2, none⟩ = some (.int .i64 y.n) ∧ W'.cell? ⟨W6.heap.size, 3, none⟩ = some (.bool y.good) ∧ W'.cell? ⟨W6.heap.size, 4, none⟩ = some ((.slice ypa y.pr.length ypc)) ∧ W'.cell? ⟨W6.heap.size, 5, none⟩ = some ((.slice yda y.dr.length ydc)) ∧ W'.cell? ⟨W6.heap.size, 6, none⟩ = some (.string y.data)) (first | assumption | go_keep)
            (first | (go_at_call 15; (with_reducible refine (HS0'.out _ hbd).mono ?_); rintro e W20 ⟨rfl, h20⟩; have hn20 := HNX.out _ (hbd.trans (Below.mono h20 (hbd.size)))) | (go_at_call 15; (with_reducible refine (HS1'.out _ hn20.1).mono ?_); rintro e W21 ⟨rfl, h21⟩; have hn21 := HNX.out _ (Below.trans hn20.1 (Below.mono h21 (hn20.1.size)))) | (go_at_call 15; (with_reducible refine (HS2'.out _ hn21.1).mono ?_); rintro e W22 ⟨rfl, h22⟩; have hn22 := HNX.out _ (Below.trans hn21.1 (Below.mono h22 (hn21.1.size)))))
          go_wp2
          go_ret
          exact ⟨rfl, bel_next' HBE.out hn22.1⟩
        · have HGX := Lib.hid (good_is x (.slice xpa x.pr.length xpc) (.slice xda x.dr.length xdc) true (by simp [gx]) W7 HT.out.sx HT.out.tx)
          have HGY := Lib.hid (fun W (h : Below W7.heap.size W7 W) => good_is y (.slice ypa y.pr.length ypc) (.slice yda y.dr.length ydc) false (by simp [gy]) W (HT.out.below h).sy (HT.out.below h).ty)
          clear gx gy
          go_wp2_with (first
            | (go_at_call 11; (with_reducible refine HGX.out.mono ?_); rintro e W8 ⟨rfl, h8⟩; obtain ⟨e0, e1, e2, e3, e4, e5, e6, -⟩ := cmd_cells (HT.out.below h8).by_; have H8 := Lib.hid h8; clear h8)
            | (go_at_call 11; (with_reducible refine (HGY.out _ H8.out).mono ?_); rintro e W9 ⟨rfl, h9⟩; have H9 := Lib.hid h9; clear h9))
          go_ret
          exact ⟨rfl, bel_next' (bel_next' H7.out H8.out) H9.out⟩
      · have HGX := Lib.hid (good_is x (.slice xpa x.pr.length xpc) (.slice xda x.dr.length xdc) false (by simp [gx]) W7 HT.out.sx HT.out.tx)
        clear gx
        go_wp2_with (go_at_call 11; (with_reducible refine HGX.out.mono ?_); rintro e W8 ⟨rfl, h8⟩; have H8 := Lib.hid h8; clear h8)
        go_ret
        exact ⟨rfl, bel_next' H7.out H8.out⟩
end Go.Proofs.Ytbedamkeeongfaa
