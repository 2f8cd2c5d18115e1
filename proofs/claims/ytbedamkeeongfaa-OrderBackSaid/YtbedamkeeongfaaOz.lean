/- Contract of the reference's Parse: the walk. -/
import Derived.Test.YtbedamkeeongfaaOy
namespace Go.Proofs.Ytbedamkeeongfaa
open Go.RowKit Go.Proofs.Ytbedamkeeongfaa.Mem Go.Proofs.Ytbedamkeeongfaa.POrderExact Go.Proofs.YtbedamkeeongfaaW.PrintWords Go.Proofs.YtbedamkeeongfaaW.PrintLast Go.Proofs.YtbedamkeeongfaaW.PrintMore
set_option linter.unusedVariables false

theorem eye_cells {w W : World} {g : Nat} {s : ByteArray} {b : Bool} (h : IsS78 w W g s b) : W.cell? ⟨g, 0, none⟩ = some (.string s) ∧ W.cell? ⟨g, 1, none⟩ = some (.bool b) := ⟨cellS78_0 h.1, cellS78_1 h.1⟩

/-- what Parse leaves -/
def ParsePost (s : ByteArray) (w : World) (e : Ending) (w' : World) : Prop := ∃ c p d r, e = .returned (.tuple #[.agg (c.vals p d), .bool r]) ∧ Sl w' w.heap.size w'.heap.size p c.pr ∧ Sl w' w.heap.size w'.heap.size d c.dr ∧
      (parseP s → c = (rdP s).c ∧ r = true) ∧ (¬ parseP s → c = Cmd.zero ∧ r = false) ∧ Below w.heap.size w w'

set_option maxRecDepth 100000 in
set_option maxHeartbeats 4000000 in
theorem refparse_calls (s : ByteArray) (w : World) (hs : (s.size : Int) ≤ 100000000) :
    Calls Try.prog 20 #[.string s] w (ParsePost s w) := by
  have htk := refTake s false 1
  rw [show ((1 : Nat) : Int) = 1 from rfl] at htk
  go_enter Try.func20, Try.ntmps20
  go_upto_region 2 with fail
  (try simp only [Act.put, List.setIfInBounds_toArray, List.set_cons_zero, List.set_cons_succ])
  generalize hW : (w.alloc (.cells #[.int .i64 0, .int .i64 0, .int .i64 0, .bool false, .slice none 0 0, .slice none 0 0, .string ⟨#[]⟩] 27)).alloc (.cells #[.string s, .bool false] 78) = W
  have hI : IsS78 w W (w.heap.size + 1) s false := by rw [← hW]; exact ⟨heap_alloc_new2 _ _ _, by omega⟩
  have hB : Below w.heap.size w W := by rw [← hW]; exact ((Below.refl _ w).alloc (Nat.le_refl _) _).alloc (by simp) _
  have hR : W.heap[w.heap.size]? = some (.cells (Cmd.zero.vals (.slice none 0 0) (.slice none 0 0)) 27 (0, 0)) := by rw [← hW]; exact heap_two _ _ _
  clear hW
  have hct := fun W' (h1 : IsS78 w W' (w.heap.size + 1) s false) (h2 : Below w.heap.size w W') => coadjutorref03_Eye_Take.calls (w.heap.size + 1) s false 1 _ _ _ w W' h1 h2 htk
  have HI := Lib.hid hI
  have HB := Lib.hid hB
  have HR := Lib.hid hR
  have HCT := Lib.hid hct
  have hWl := lt_of_block hI.1
  clear hI hB hR hct htk
  have hx0 : rd0 s = ⟨(takeE s false 1).2.2.1, (takeE s false 1).2.2.2, false, ⟨byteE s false, 0, 0, false, [], [], ⟨#[]⟩⟩⟩ := rfl
  have hxP : rdP s = (rd0 s).letters (hasB (byteE s false)).data.toList := by rw [Rd.letters, has_fields]; rfl
  have hpP : parseP s ↔ ((rdP s).bad = false ∧ (rdP s).s.size = 0 ∧ (rdP s).wrong = false ∧ 1 ≤ (byteE s false : Int) ∧ (byteE s false : Int) ≤ 13) := Iff.rfl
  have hk256 := byteE_lt s false
  by_cases hb : s.size < 1
  · have hbad : ¬ parseP s := by
      intro h
      have : byteE s false = 0 := by unfold byteE; rw [if_pos (Or.inr hb)]
      have := h.2.2.2.1
      omega
    have HBAD := Lib.hid hbad
    have et : takeE s false 1 = (⟨#[]⟩, false, ⟨#[]⟩, true) := by unfold takeE; rw [if_pos (Or.inr hb)]
    rw [et] at HCT
    clear hx0 hxP hpP et hbad hb
    go_wp2_with (first | (go_at_call 42; refine (HCT.out _ HI.out HB.out).mono ?_; rintro e w1 ⟨rfl, h1, h2, h3⟩; obtain ⟨e0, e1⟩ := eye_cells h1; have hr1 := (h3.2 w.heap.size (lt_of_block HR.out) (by omega) (by simp)).trans HR.out; obtain ⟨y0, y1, y2, y3, y4, y5, y6, yf⟩ := cmd_cells hr1; have f0 := yf 0; have f1 := yf 1; have f2 := yf 2; have f3 := yf 3; have f4 := yf 4; have f5 := yf 5; have f6 := yf 6; have HR1 := Lib.hid hr1; have H2 := Lib.hid h2; clear h1 h2 h3 yf hr1))
    refine bodyPost_ret (results_row_tmp rfl _ _ w.heap.size 27 (Cmd.zero.vals (.slice none 0 0) (.slice none 0 0)) (0, 0) _ rfl (put7_heap HR1.out Cmd.zero (.slice none 0 0) (.slice none 0 0)) Try.underlying27 rfl (by kernel_rfl)) rfl ?_
    unfold ParsePost
    exact ⟨Cmd.zero, .slice none 0 0, .slice none 0 0, false, rfl, Sl.nil _ _ _ _ _, Sl.nil _ _ _ _ _, fun hp => absurd hp HBAD.out, fun _ => ⟨rfl, rfl⟩, put7_below H2.out _ (Nat.le_refl _) Cmd.zero (.slice none 0 0) (.slice none 0 0)⟩
  · have h1s : 1 ≤ s.size := by omega
    have hz : (s.extract 0 1).size = 1 := by rw [ByteArray.size_extract]; omega
    have et : takeE s false 1 = (s.extract 0 1, true, s.extract 1 s.size, false) := by unfold takeE; rw [if_neg (by rintro (h | h); cases h; omega)]
    have hv : ∀ h : 0 < (s.extract 0 1).size, ((s.extract 0 1)[0]'h).toNat = byteE s false := by
      intro h
      have h0 : 0 < s.data.size := h1s
      unfold byteE
      rw [if_neg (by rintro (h | h); cases h; omega), List.getD_eq_getElem?_getD]
      simp [ByteArray.getElem_eq_getElem_data, ByteArray.data_extract]
      rw [Array.getElem?_eq_getElem h0]
      rfl
    rw [et] at HCT hx0
    simp only at hx0 HCT
    generalize byteE s false = kn at hv hx0 hxP hpP hk256
    generalize s.extract 0 1 = t at hz hv HCT
    generalize s.extract 1 s.size = s1 at hx0 HCT
    have HV := Lib.hid hv
    have HX0 := Lib.hid hx0
    have HXP := Lib.hid hxP
    have HPP := Lib.hid hpP
    have hti : (0 : Int) < t.size := by omega
    clear hv hx0 hxP hpP et hb hz
    have hv0 : ∀ h : 0 < t.size, ((t[0]'h).toNat : Int) = (kn : Int) := fun h => by rw [HV.out h]
    go_upto_region 7 with (first | (go_at_call 42; refine (HCT.out _ HI.out HB.out).mono ?_; rintro e w1 ⟨rfl, h1, h2, h3⟩; obtain ⟨e0, e1⟩ := eye_cells h1; have H1 := Lib.hid h1; have H2 := Lib.hid h2; have H3 := Lib.hid h3; clear h1 h2 h3) | (go_at_call 18; refine (has_calls _ _).mono ?_; rintro e w2 ⟨rfl, h4⟩; have H4 := Lib.hid h4; clear h4))
    have hlet := has_letters kn
    have hhs := has_size kn
    have hP0 : PI w w.heap.size (w.heap.size + 1) w1.heap.size (rd0 s) ⟨kn, 0, 0, false, [], [], ⟨#[]⟩⟩ (.slice none 0 0) (.slice none 0 0) w2 := by
      have hs1 := H1.out.lt
      have h3 := H3.out.1
      rw [HX0.out]
      refine ⟨(H1.out.alloc _).below H4.out, (H2.out.alloc (by omega) _).trans (H4.out.mono (by simp; omega)), (H4.out.block _ (by simp)).trans (heap_alloc_new _ _), Sl.nil _ _ _ _ _, Sl.nil _ _ _ _ _, fun _ => rfl, rfl, ?_, by omega, rfl⟩
      rw [H4.out.block _ (by simp; omega), Below.heap_alloc _ _ _ (by omega)]
      exact (H3.out.2 w.heap.size (lt_of_block HR.out) (by omega) (by simp)).trans HR.out
    have hm0 : w.heap.size ≤ w1.heap.size := H2.out.size
    generalize w1.heap.size = m at hP0 hm0 ⊢
    generalize hasB (kn : Int) = H at hlet hhs HXP ⊢
    generalize rd0 s = x0 at HX0 HXP hP0
    have HLET := Lib.hid hlet
    have HP0 := Lib.hid hP0
    have hH : (H.size : Int) ≤ 4 := by omega
    clear hlet hhs hP0 e0 e1 hv0 hti h1s
    go_wp2_with fail
    go_loopw [8] (fun i wr => ∃ (j : Nat) (c : Cmd) (pa : Option Addr) (pc : Nat) (da : Option Addr) (dc : Nat), j ≤ H.size ∧ i = .int .i64 j ∧ PI w w.heap.size (w.heap.size + 1) m (x0.letters (H.data.toList.take j)) c (.slice pa c.pr.length pc) (.slice da c.dr.length dc) wr) (fun i _ => H.size - (intOf i).toNat)
    case atStart => exact ⟨0, _, none, 0, none, 0, by omega, rfl, HP0.out⟩
    case round =>
      obtain ⟨j, c, pa, pc, da, dc, hj, rfl, hP⟩ := hrel
      obtain ⟨x, hx⟩ : ∃ x, x0.letters (H.data.toList.take j) = x := ⟨_, rfl⟩
      rw [hx] at hP
      have hne := hP.ne
      have hml := lt_of_block hP.val
      have hres := hP.res
      have HP := Lib.hid hP
      by_cases hlt : j < H.size
      · have hnx : ∀ f n, H[j].toNat = n → n < 256 → fieldOf (UInt8.ofNat n) = f → x0.letters (H.data.toList.take (j + 1)) = x.step f := fun f n h1 h2 h3 => by rw [letters_take _ _ _ hlt, hx, fieldOf_toNat _ _ h1 h2, h3]
        have HNX := Lib.hid hnx
        have hcm : ∀ w', KeepBut wr w' (w.heap.size + 1) none → (w'.heap[m]? = some (.cells (c.vals (.slice pa c.pr.length pc) (.slice da c.dr.length dc)) 27 (0, 0))) := fun w' hk => (hk.2 m hml (by omega) (by simp)).trans HP.out.val
        have HCM := Lib.hid hcm
        have hl6 := HLET.out j hlt
        clear hnx hcm hres
        rcases hl6 with hln | hln | hln | hln | hln | hln
        · have hst : x.step 1 = ⟨(numE x.s x.bad 4294967295).2.1, (numE x.s x.bad 4294967295).2.2, x.wrong, { x.c with id := (numE x.s x.bad 4294967295).1 - 2147483648 }⟩ := rfl
          have hnx := HNX.out 1 105 hln (by decide) (by decide)
          have hcal := coadjutorref03_Eye_Num.calls (w.heap.size + 1) x.s x.bad 4294967295 _ _ _ w wr hP.eye hP.bel (refNum x.s x.bad 4294967295)
          have hp := numE_pos x.s x.bad 4294967295
          have hp2 := numE_lt x.s x.bad 4294967295
          have hmo := numE_mono x.s x.bad 4294967295
          rw [hst] at hnx
          generalize numE x.s x.bad 4294967295 = q at hcal hnx hp hp2 hmo
          obtain ⟨n, r, b⟩ := q
          simp only at hcal hnx hp hp2 hmo
          have hwr : IntKind.i64.wrap (n - 2147483648) = n - 2147483648 := IntWalk.i64_in _ (by omega)
          have HCAL := Lib.hid hcal
          have HNX2 := Lib.hid hnx
          have HMO := Lib.hid hmo
          clear hcal hnx hst hmo hP hx
          go_wp2_with (go_at_call 43; refine HCAL.out.mono ?_; rintro e w3 ⟨rfl, h1, h2, h3⟩; have hv3 := HCM.out w3 h3; obtain ⟨k0, k1, k2, k3, k4, k5, k6, kf⟩ := cmd_cells hv3; have g0 := kf 1; have H1' := Lib.hid h1; have H2' := Lib.hid h2; have H3' := Lib.hid h3; clear h1 h2 h3 hv3 kf)
          go_roundw
          case rel => exact ⟨j + 1, { c with id := n - 2147483648 }, pa, pc, da, dc, by omega, by go_num, by rw [HNX2.out]; exact HP.out.put (x' := ⟨r, b, x.wrong, { x.c with id := n - 2147483648 }⟩) H1'.out H2'.out H3'.out rfl (HP.out.pr.keepBut H3'.out HP.out.ne.1) (HP.out.dr.keepBut H3'.out HP.out.ne.1) (fun hb => by rw [HP.out.good (HMO.out hb)]) HP.out.kind HP.out.wrong hm0⟩
          case measure => simp [intOf]; omega
        · have hst : x.step 2 = ⟨(numE x.s x.bad 4294967295).2.1, (numE x.s x.bad 4294967295).2.2, x.wrong, { x.c with n := (numE x.s x.bad 4294967295).1 - 2147483648 }⟩ := rfl
          have hnx := HNX.out 2 110 hln (by decide) (by decide)
          have hcal := coadjutorref03_Eye_Num.calls (w.heap.size + 1) x.s x.bad 4294967295 _ _ _ w wr hP.eye hP.bel (refNum x.s x.bad 4294967295)
          have hp := numE_pos x.s x.bad 4294967295
          have hp2 := numE_lt x.s x.bad 4294967295
          have hmo := numE_mono x.s x.bad 4294967295
          rw [hst] at hnx
          generalize numE x.s x.bad 4294967295 = q at hcal hnx hp hp2 hmo
          obtain ⟨n, r, b⟩ := q
          simp only at hcal hnx hp hp2 hmo
          have hwr : IntKind.i64.wrap (n - 2147483648) = n - 2147483648 := IntWalk.i64_in _ (by omega)
          have HCAL := Lib.hid hcal
          have HNX2 := Lib.hid hnx
          have HMO := Lib.hid hmo
          clear hcal hnx hst hmo hP hx
          go_wp2_with (go_at_call 43; refine HCAL.out.mono ?_; rintro e w3 ⟨rfl, h1, h2, h3⟩; have hv3 := HCM.out w3 h3; obtain ⟨k0, k1, k2, k3, k4, k5, k6, kf⟩ := cmd_cells hv3; have g0 := kf 2; have H1' := Lib.hid h1; have H2' := Lib.hid h2; have H3' := Lib.hid h3; clear h1 h2 h3 hv3 kf)
          go_roundw
          case rel => exact ⟨j + 1, { c with n := n - 2147483648 }, pa, pc, da, dc, by omega, by go_num, by rw [HNX2.out]; exact HP.out.put (x' := ⟨r, b, x.wrong, { x.c with n := n - 2147483648 }⟩) H1'.out H2'.out H3'.out rfl (HP.out.pr.keepBut H3'.out HP.out.ne.1) (HP.out.dr.keepBut H3'.out HP.out.ne.1) (fun hb => by rw [HP.out.good (HMO.out hb)]) HP.out.kind HP.out.wrong hm0⟩
          case measure => simp [intOf]; omega
        · have hst : x.step 3 = ⟨(takeE x.s x.bad 1).2.2.1, (takeE x.s x.bad 1).2.2.2, x.wrong || decide ((1 : Int) < byteE x.s x.bad), { x.c with good := (byteE x.s x.bad : Int) == 1 }⟩ := rfl
          have hnx := HNX.out 3 103 hln (by decide) (by decide)
          have htk := refTake x.s x.bad 1
          rw [show ((1 : Nat) : Int) = 1 from rfl] at htk
          have hcal := coadjutorref03_Eye_Take.calls (w.heap.size + 1) x.s x.bad 1 _ _ _ w wr hP.eye hP.bel htk
          have hres := hP.res
          clear htk
          by_cases hbs : x.bad = true ∨ x.s.size < 1
          · have et : takeE x.s x.bad 1 = (⟨#[]⟩, false, ⟨#[]⟩, true) := by unfold takeE; rw [if_pos hbs]
            rw [et] at hcal hst
            simp only at hcal hst
            have hbad : ¬ parseP s := by
              intro h
              obtain ⟨fs, hfs⟩ := letters_after x0 H (j + 1)
              have h1 := (HPP.out.1 h).1
              rw [HXP.out, hfs, hnx, hst] at h1
              have := steps_mono _ _ h1
              simp at this
            have HBAD := Lib.hid hbad
            have HCAL := Lib.hid hcal
            clear hcal hnx hst hP hx hbs et hbad hres
            go_wp2_with (go_at_call 42; refine HCAL.out.mono ?_; rintro e w3 ⟨rfl, h1, h2, h3⟩; have hr1 := (h3.2 w.heap.size (lt_of_block HP.out.res) (by omega) (by simp)).trans HP.out.res; obtain ⟨y0, y1, y2, y3, y4, y5, y6, yf⟩ := cmd_cells hr1; have f0 := yf 0; have f1 := yf 1; have f2 := yf 2; have f3 := yf 3; have f4 := yf 4; have f5 := yf 5; have f6 := yf 6; have HR1 := Lib.hid hr1; have H2' := Lib.hid h2; clear h1 h2 h3 yf hr1)
            refine bodyPost_ret (results_row_tmp rfl _ _ w.heap.size 27 (Cmd.zero.vals (.slice none 0 0) (.slice none 0 0)) (0, 0) _ rfl (put7_heap HR1.out Cmd.zero (.slice none 0 0) (.slice none 0 0)) Try.underlying27 rfl (by kernel_rfl)) rfl ?_
            unfold ParsePost
            exact ⟨Cmd.zero, .slice none 0 0, .slice none 0 0, false, rfl, Sl.nil _ _ _ _ _, Sl.nil _ _ _ _ _, fun hp => absurd hp HBAD.out, fun _ => ⟨rfl, rfl⟩, put7_below H2'.out _ (Nat.le_refl _) Cmd.zero (.slice none 0 0) (.slice none 0 0)⟩
          · have h1s : 1 ≤ x.s.size := by have := not_or.1 hbs; omega
            have hxb : x.bad = false := by cases hb : x.bad; rfl; exact absurd (Or.inl hb) hbs
            have et : takeE x.s x.bad 1 = (x.s.extract 0 1, true, x.s.extract 1 x.s.size, false) := by unfold takeE; rw [if_neg hbs]
            have hby : byteE x.s x.bad = (x.s.data.toList.getD 0 0).toNat := by unfold byteE; rw [if_neg hbs]
            rw [et] at hcal hst
            rw [ext1 _ h1s] at hcal
            simp only at hcal hst
            clear et hres
            obtain ⟨b0, hb0⟩ : ∃ b0, x.s.data.toList.getD 0 0 = b0 := ⟨_, rfl⟩
            by_cases hz : b0 = 0
            · subst hz
              have hst3 : x.step 3 = ⟨x.s.extract 1 x.s.size, false, false, { x.c with good := false }⟩ := by
                rw [hst, hby, hP.wrong, hb0]
                rfl
              rw [hst3] at hnx
              rw [hb0] at hcal
              have HCAL := Lib.hid hcal
              have HNX2 := Lib.hid hnx
              have HXB := Lib.hid hxb
              clear hcal hnx hst hst3 hP hx hby hxb hb0 hbs h1s
              go_wp2_with (go_at_call 42; refine HCAL.out.mono ?_; rintro e w3 ⟨rfl, h1, h2, h3⟩; have hv3 := HCM.out w3 h3; obtain ⟨k0, k1, k2, k3, k4, k5, k6, kf⟩ := cmd_cells hv3; have g0 := kf 3; have H1' := Lib.hid h1; have H2' := Lib.hid h2; have H3' := Lib.hid h3; clear h1 h2 h3 hv3 kf)
              go_roundw
              case rel => exact ⟨j + 1, { c with good := false }, pa, pc, da, dc, by omega, by go_num, by rw [HNX2.out]; exact HP.out.put (x' := ⟨x.s.extract 1 x.s.size, false, false, { x.c with good := false }⟩) H1'.out H2'.out H3'.out rfl (HP.out.pr.keepBut H3'.out HP.out.ne.1) (HP.out.dr.keepBut H3'.out HP.out.ne.1) (fun hb => by rw [HP.out.good HXB.out]) HP.out.kind rfl hm0⟩
              case measure => simp [intOf]; omega
            by_cases ho : b0 = 1
            · subst ho
              have hst3 : x.step 3 = ⟨x.s.extract 1 x.s.size, false, false, { x.c with good := true }⟩ := by
                rw [hst, hby, hP.wrong, hb0]
                rfl
              rw [hst3] at hnx
              rw [hb0] at hcal
              have HCAL := Lib.hid hcal
              have HNX2 := Lib.hid hnx
              have HXB := Lib.hid hxb
              clear hcal hnx hst hst3 hP hx hby hxb hb0 hbs h1s
              go_wp2_with (go_at_call 42; refine HCAL.out.mono ?_; rintro e w3 ⟨rfl, h1, h2, h3⟩; have hv3 := HCM.out w3 h3; obtain ⟨k0, k1, k2, k3, k4, k5, k6, kf⟩ := cmd_cells hv3; have g0 := kf 3; have H1' := Lib.hid h1; have H2' := Lib.hid h2; have H3' := Lib.hid h3; clear h1 h2 h3 hv3 kf)
              go_roundw
              case rel => exact ⟨j + 1, { c with good := true }, pa, pc, da, dc, by omega, by go_num, by rw [HNX2.out]; exact HP.out.put (x' := ⟨x.s.extract 1 x.s.size, false, false, { x.c with good := true }⟩) H1'.out H2'.out H3'.out rfl (HP.out.pr.keepBut H3'.out HP.out.ne.1) (HP.out.dr.keepBut H3'.out HP.out.ne.1) (fun hb => by rw [HP.out.good HXB.out]) HP.out.kind rfl hm0⟩
              case measure => simp [intOf]; omega
            · have hbad : ¬ parseP s := by
                intro h
                obtain ⟨fs, hfs⟩ := letters_after x0 H (j + 1)
                have h1 := (HPP.out.1 h).2.2.1
                rw [HXP.out, hfs, hnx, hst, hby, hb0] at h1
                have h2 := steps_wrong _ _ h1
                have h3 : ¬ b0.toNat = 0 := fun e => hz (UInt8.toNat_inj.1 e)
                have h4 : ¬ b0.toNat = 1 := fun e => ho (UInt8.toNat_inj.1 e)
                simp at h2
                omega
              rw [hb0] at hcal
              have hz1 : (b0 == 0) = false := by simpa using hz
              have ho1 : (b0 == 1) = false := by simpa using ho
              have HBAD := Lib.hid hbad
              have HCAL := Lib.hid hcal
              clear hcal hnx hst hP hx hbs hby hxb hb0 h1s hbad
              go_wp2_with (go_at_call 42; refine HCAL.out.mono ?_; rintro e w3 ⟨rfl, h1, h2, h3⟩; have hr1 := (h3.2 w.heap.size (lt_of_block HP.out.res) (by omega) (by simp)).trans HP.out.res; obtain ⟨y0, y1, y2, y3, y4, y5, y6, yf⟩ := cmd_cells hr1; have f0 := yf 0; have f1 := yf 1; have f2 := yf 2; have f3 := yf 3; have f4 := yf 4; have f5 := yf 5; have f6 := yf 6; have HR1 := Lib.hid hr1; have H2' := Lib.hid h2; clear h1 h2 h3 yf hr1)
              refine bodyPost_ret (results_row_tmp rfl _ _ w.heap.size 27 (Cmd.zero.vals (.slice none 0 0) (.slice none 0 0)) (0, 0) _ rfl (put7_heap HR1.out Cmd.zero (.slice none 0 0) (.slice none 0 0)) Try.underlying27 rfl (by kernel_rfl)) rfl ?_
              unfold ParsePost
              exact ⟨Cmd.zero, .slice none 0 0, .slice none 0 0, false, rfl, Sl.nil _ _ _ _ _, Sl.nil _ _ _ _ _, fun hp => absurd hp HBAD.out, fun _ => ⟨rfl, rfl⟩, put7_below H2'.out _ (Nat.le_refl _) Cmd.zero (.slice none 0 0) (.slice none 0 0)⟩
        · have hst : x.step 4 = ⟨(rowE x.s x.bad).2.1, (rowE x.s x.bad).2.2, x.wrong, { x.c with pr := (rowE x.s x.bad).1 }⟩ := rfl
          have hnx := HNX.out 4 112 hln (by decide) (by decide)
          obtain ⟨L, hL1, hL2, hL3⟩ := refRows x.s x.bad
          have hcal := coadjutorref29_rows.calls 40 (w.heap.size + 1) x.s x.bad L _ _ w wr hP.eye hP.bel hL1
          have hmo : (rowE x.s x.bad).2.2 = false → x.bad = false := fun h => numE_mono _ _ _ (rdS_mono _ _ _ h)
          rw [hst] at hnx
          clear hL1
          generalize rowE x.s x.bad = q at hcal hnx hmo hL2
          obtain ⟨L0, r, b⟩ := q
          simp only at hcal hnx hmo hL2
          have HCAL := Lib.hid hcal
          have HNX2 := Lib.hid hnx
          have HMO := Lib.hid hmo
          have HL2 := Lib.hid hL2
          clear hcal hnx hst hmo hP hx hL2
          go_wp2_with (go_at_call 44; refine HCAL.out.mono ?_; rintro e w3 ⟨v, rfl, h5, h1, h2, h3⟩; have h5s := (sl_of_R h5 (by omega)).move (A' := m + 1) (B' := w3.heap.size) (by omega) (Nat.le_refl _) (fun _ _ _ => rfl); obtain ⟨va, vc, rfl⟩ := h5s.slice; have hv3 := HCM.out w3 h3; obtain ⟨k0, k1, k2, k3, k4, k5, k6, kf⟩ := cmd_cells hv3; have g0 := kf 4; have H1' := Lib.hid h1; have H2' := Lib.hid h2; have H3' := Lib.hid h3; have H5' := Lib.hid h5s; clear h1 h2 h3 hv3 kf h5 h5s)
          go_roundw
          case rel =>
            have h5s := H5'.out
            exact ⟨j + 1, { c with pr := L }, va, vc, da, dc, by omega, by go_num, by rw [HNX2.out]; exact HP.out.put (x' := ⟨r, b, x.wrong, { x.c with pr := L0 }⟩) H1'.out H2'.out H3'.out rfl h5s (HP.out.dr.keepBut H3'.out HP.out.ne.1) (fun hb => by rw [HP.out.good (HMO.out hb), HL2.out hb]) HP.out.kind HP.out.wrong hm0⟩
          case measure => simp [intOf]; omega
        · have hst : x.step 5 = ⟨(rowE x.s x.bad).2.1, (rowE x.s x.bad).2.2, x.wrong, { x.c with dr := (rowE x.s x.bad).1 }⟩ := rfl
          have hnx := HNX.out 5 100 hln (by decide) (by decide)
          obtain ⟨L, hL1, hL2, hL3⟩ := refRows x.s x.bad
          have hcal := coadjutorref29_rows.calls 40 (w.heap.size + 1) x.s x.bad L _ _ w wr hP.eye hP.bel hL1
          have hmo : (rowE x.s x.bad).2.2 = false → x.bad = false := fun h => numE_mono _ _ _ (rdS_mono _ _ _ h)
          rw [hst] at hnx
          clear hL1
          generalize rowE x.s x.bad = q at hcal hnx hmo hL2
          obtain ⟨L0, r, b⟩ := q
          simp only at hcal hnx hmo hL2
          have HCAL := Lib.hid hcal
          have HNX2 := Lib.hid hnx
          have HMO := Lib.hid hmo
          have HL2 := Lib.hid hL2
          clear hcal hnx hst hmo hP hx hL2
          go_wp2_with (go_at_call 44; refine HCAL.out.mono ?_; rintro e w3 ⟨v, rfl, h5, h1, h2, h3⟩; have h5s := (sl_of_R h5 (by omega)).move (A' := m + 1) (B' := w3.heap.size) (by omega) (Nat.le_refl _) (fun _ _ _ => rfl); obtain ⟨va, vc, rfl⟩ := h5s.slice; have hv3 := HCM.out w3 h3; obtain ⟨k0, k1, k2, k3, k4, k5, k6, kf⟩ := cmd_cells hv3; have g0 := kf 5; have H1' := Lib.hid h1; have H2' := Lib.hid h2; have H3' := Lib.hid h3; have H5' := Lib.hid h5s; clear h1 h2 h3 hv3 kf h5 h5s)
          go_roundw
          case rel =>
            have h5s := H5'.out
            exact ⟨j + 1, { c with dr := L }, pa, pc, va, vc, by omega, by go_num, by rw [HNX2.out]; exact HP.out.put (x' := ⟨r, b, x.wrong, { x.c with dr := L0 }⟩) H1'.out H2'.out H3'.out rfl (HP.out.pr.keepBut H3'.out HP.out.ne.1) h5s (fun hb => by rw [HP.out.good (HMO.out hb), HL2.out hb]) HP.out.kind HP.out.wrong hm0⟩
          case measure => simp [intOf]; omega
        · have hst : x.step 6 = ⟨(textE x.s x.bad 1024).2.2.1, (textE x.s x.bad 1024).2.2.2, x.wrong, { x.c with data := (textE x.s x.bad 1024).1 }⟩ := rfl
          have hnx := HNX.out 6 116 hln (by decide) (by decide)
          have hcal := coadjutorref03_Eye_Text.calls (w.heap.size + 1) x.s x.bad 1024 _ _ _ w wr hP.eye hP.bel (refText x.s x.bad 1024)
          have hmo : (textE x.s x.bad 1024).2.2.2 = false → x.bad = false := fun h => numE_mono _ _ _ (takeE_mono _ _ _ h)
          rw [hst] at hnx
          generalize textE x.s x.bad 1024 = q at hcal hnx hmo
          obtain ⟨tx, ok, r, b⟩ := q
          simp only at hcal hnx hmo
          have HCAL := Lib.hid hcal
          have HNX2 := Lib.hid hnx
          have HMO := Lib.hid hmo
          clear hcal hnx hst hmo hP hx
          go_wp2_with (go_at_call 45; refine HCAL.out.mono ?_; rintro e w3 ⟨rfl, h1, h2, h3⟩; have hv3 := HCM.out w3 h3; obtain ⟨k0, k1, k2, k3, k4, k5, k6, kf⟩ := cmd_cells hv3; have g0 := kf 6; have H1' := Lib.hid h1; have H2' := Lib.hid h2; have H3' := Lib.hid h3; clear h1 h2 h3 hv3 kf)
          go_roundw
          case rel => exact ⟨j + 1, { c with data := tx }, pa, pc, da, dc, by omega, by go_num, by rw [HNX2.out]; exact HP.out.put (x' := ⟨r, b, x.wrong, { x.c with data := tx }⟩) H1'.out H2'.out H3'.out rfl (HP.out.pr.keepBut H3'.out HP.out.ne.1) (HP.out.dr.keepBut H3'.out HP.out.ne.1) (fun hb => by rw [HP.out.good (HMO.out hb)]) HP.out.kind HP.out.wrong hm0⟩
          case measure => simp [intOf]; omega
      · obtain rfl : j = H.size := by omega
        have hxr : rdP s = x := by rw [HXP.out, ← hx, List.take_of_length_le (by simp)]
        rw [hxr] at HPP
        have hkx : x.c.kind = kn := by rw [← hx, letters_kind, HX0.out]
        obtain ⟨e0, e1⟩ := eye_cells hP.eye
        obtain ⟨k0, k1, k2, k3, k4, k5, k6, _⟩ := cmd_cells hP.val
        obtain ⟨y0, y1, y2, y3, y4, y5, y6, yf⟩ := cmd_cells hP.res
        have f0 := yf 0
        have f1 := yf 1
        have f2 := yf 2
        have f3 := yf 3
        have f4 := yf 4
        have f5 := yf 5
        have f6 := yf 6
        have hkc := hP.kind.trans hkx
        have HKC := Lib.hid hkc
        have HXR := Lib.hid hxr
        have hlow := lt_of_block hP.res
        clear hP hx hres hxr hkx hkc yf hlt
        generalize hxb : x.bad = b at *
        cases b with
        | true =>
          have hbad : ¬ parseP s := fun h => by have := (HPP.out.1 h).1; simp at this
          have HBAD := Lib.hid hbad
          clear hbad
          go_wp2_with fail
          refine bodyPost_ret (results_row_tmp rfl _ _ w.heap.size 27 (Cmd.zero.vals (.slice none 0 0) (.slice none 0 0)) (0, 0) _ rfl (put7_heap HP.out.res Cmd.zero (.slice none 0 0) (.slice none 0 0)) Try.underlying27 rfl (by kernel_rfl)) rfl ?_
          unfold ParsePost
          exact ⟨Cmd.zero, .slice none 0 0, .slice none 0 0, false, rfl, Sl.nil _ _ _ _ _, Sl.nil _ _ _ _ _, fun hp => absurd hp HBAD.out, fun _ => ⟨rfl, rfl⟩, put7_below HP.out.bel _ (Nat.le_refl _) Cmd.zero (.slice none 0 0) (.slice none 0 0)⟩
        | false =>
          by_cases hsz : x.s.size = 0
          · have HSZ := Lib.hid hsz
            by_cases hk13 : 1 ≤ c.kind ∧ c.kind ≤ 13
            · have hne := nameB_full c.kind hk13
              have hNm := refname_calls c.kind
              obtain ⟨nb, hnb⟩ : ∃ nb, nameB c.kind = nb := ⟨_, rfl⟩
              rw [hnb] at hne hNm
              have hne2 : nb.toList.isEmpty = false := by simpa using hne
              have HNM := Lib.hid hNm
              have HK13 := Lib.hid hk13
              have HXB := Lib.hid hxb
              clear hne hnb hNm hk13 hxb
              go_wp2_with (go_at_call 13; refine (HNM.out _).mono ?_; rintro e w3 ⟨rfl, hb3⟩; have hr1 := (hb3.block w.heap.size (lt_of_block HP.out.res)).trans HP.out.res; have hv1 := (hb3.block m (lt_of_block HP.out.val)).trans HP.out.val; obtain ⟨y0, y1, y2, y3, y4, y5, y6, yf⟩ := cmd_cells hr1; have f0 := yf 0; have f1 := yf 1; have f2 := yf 2; have f3 := yf 3; have f4 := yf 4; have f5 := yf 5; have f6 := yf 6; obtain ⟨k0, k1, k2, k3, k4, k5, k6, _⟩ := cmd_cells hv1; have HR1 := Lib.hid hr1; have HB3 := Lib.hid hb3; clear yf hr1 hv1 hb3)
              refine bodyPost_ret (results_row_tmp rfl _ _ w.heap.size 27 (c.vals (.slice pa c.pr.length pc) (.slice da c.dr.length dc)) (0, 0) _ rfl (put7_heap HR1.out c (.slice pa c.pr.length pc) (.slice da c.dr.length dc)) Try.underlying27 rfl (by kernel_rfl)) rfl ?_
              unfold ParsePost
              have hmv : ∀ k, m + 1 ≤ k → k < wr.heap.size → (put7 w3 w.heap.size c (.slice pa c.pr.length pc) (.slice da c.dr.length dc)).heap[k]? = wr.heap[k]? := fun k h1 h2 => by
                rw [put7_other _ _ _ _ _ _ (by omega)]
                exact HB3.out.block k h2
              have hsz : wr.heap.size ≤ (put7 w3 w.heap.size c (.slice pa c.pr.length pc) (.slice da c.dr.length dc)).heap.size := by rw [put7_size]; exact HB3.out.size
              have hkc := HKC.out
              have hk13 := HK13.out
              refine ⟨c, _, _, true, rfl, HP.out.pr.move (by omega) hsz hmv, HP.out.dr.move (by omega) hsz hmv, fun _ => ⟨by rw [HXR.out]; exact (HP.out.good HXB.out).symm, rfl⟩, fun hn => absurd (HPP.out.2 ⟨by first | rfl | trivial | exact HXB.out, HSZ.out, HP.out.wrong, by omega, by omega⟩) hn, put7_below (HP.out.bel.trans (HB3.out.mono (by omega))) _ (Nat.le_refl _) c _ _⟩
            · have hNm := refname_calls c.kind
              rw [nameB_empty _ (by omega)] at hNm
              have hbad : ¬ parseP s := fun h => hk13 (by have h1 := (HPP.out.1 h).2.2.2; have := HKC.out; omega)
              have HNM := Lib.hid hNm
              have HBAD := Lib.hid hbad
              clear hNm hk13 hxb hbad
              go_wp2_with (go_at_call 13; refine (HNM.out _).mono ?_; rintro e w3 ⟨rfl, hb3⟩; have hr1 := (hb3.block w.heap.size (lt_of_block HP.out.res)).trans HP.out.res; have hv1 := (hb3.block m (lt_of_block HP.out.val)).trans HP.out.val; obtain ⟨y0, y1, y2, y3, y4, y5, y6, yf⟩ := cmd_cells hr1; have f0 := yf 0; have f1 := yf 1; have f2 := yf 2; have f3 := yf 3; have f4 := yf 4; have f5 := yf 5; have f6 := yf 6; obtain ⟨k0, k1, k2, k3, k4, k5, k6, _⟩ := cmd_cells hv1; have HR1 := Lib.hid hr1; have HB3 := Lib.hid hb3; clear yf hr1 hv1 hb3)
              refine bodyPost_ret (results_row_tmp rfl _ _ w.heap.size 27 (Cmd.zero.vals (.slice none 0 0) (.slice none 0 0)) (0, 0) _ rfl (put7_heap HR1.out Cmd.zero (.slice none 0 0) (.slice none 0 0)) Try.underlying27 rfl (by kernel_rfl)) rfl ?_
              unfold ParsePost
              exact ⟨Cmd.zero, .slice none 0 0, .slice none 0 0, false, rfl, Sl.nil _ _ _ _ _, Sl.nil _ _ _ _ _, fun hp => absurd hp HBAD.out, fun _ => ⟨rfl, rfl⟩, put7_below (HP.out.bel.trans (HB3.out.mono (by omega))) _ (Nat.le_refl _) Cmd.zero (.slice none 0 0) (.slice none 0 0)⟩
          · have hsi : (0 : Int) < x.s.size := by omega
            have hsn : 0 < x.s.size := by omega
            have hbad : ¬ parseP s := fun h => hsz (HPP.out.1 h).2.1
            have HBAD := Lib.hid hbad
            clear hbad hsz hxb
            go_wp2_with fail
            refine bodyPost_ret (results_row_tmp rfl _ _ w.heap.size 27 (Cmd.zero.vals (.slice none 0 0) (.slice none 0 0)) (0, 0) _ rfl (put7_heap HP.out.res Cmd.zero (.slice none 0 0) (.slice none 0 0)) Try.underlying27 rfl (by kernel_rfl)) rfl ?_
            unfold ParsePost
            exact ⟨Cmd.zero, .slice none 0 0, .slice none 0 0, false, rfl, Sl.nil _ _ _ _ _, Sl.nil _ _ _ _ _, fun hp => absurd hp HBAD.out, fun _ => ⟨rfl, rfl⟩, put7_below HP.out.bel _ (Nat.le_refl _) Cmd.zero (.slice none 0 0) (.slice none 0 0)⟩
end Go.Proofs.Ytbedamkeeongfaa
