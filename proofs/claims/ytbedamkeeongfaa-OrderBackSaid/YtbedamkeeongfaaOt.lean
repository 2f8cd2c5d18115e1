/- Contract of order.Parse. -/
import Derived.Test.YtbedamkeeongfaaOs
import Derived.Test.YtbedamkeeongfaaOi
import Derived.Deep.Cut
import Derived.Laws.ResultCell
namespace Go.Proofs.Ytbedamkeeongfaa
open Go.RowKit Go.Proofs.Ytbedamkeeongfaa.Mem
set_option linter.unusedVariables false

theorem results_row_tmp {P : Program} {fn : Func} {p u ty : Nat} (h : fn.results = #[.cell p ty, .tmp u]) (tmps : Array Value) (w : World) (g : Nat) (t : Nat) (cs : Array Value) (fr : Nat × Nat) (d : TypeDesc)
    (hp : tmps.getD p undef = .pointer (some ⟨g, 0, none⟩)) (hg : w.heap[g]? = some (.cells cs t fr))
    (hu : P.underlying ty = some d) (hd : (match d with | .struct _ | .array _ _ => true | _ => false) = true) (hi : (P.info? ty).map (·.size) = some cs.size) :
    (results fn tmps).run P w = .ok (.tuple #[.agg cs, tmps.getD u undef]) w := by
  rw [results_cell_tmp h, hp]
  simp [asAddr, run_loadVar_row w g t ty cs fr d hg hu hd hi, Result.andThen]

theorem of_calls (s : ByteArray) (w : World) :
    Calls Try.prog 39 #[.string s] w fun e w' => e = .returned (.pointer (some ⟨w.heap.size, 0, none⟩)) ∧ w' = w.alloc (.cells #[.string s, .bool false] 105) := by
  go_enter Try.func39, Try.ntmps39
  go_wp2
  go_ret
  exact ⟨rfl, rfl⟩

/-- what reading a command begins with -/
def rd0 (s : ByteArray) : Rd := ⟨(takeE s false 1).2.2.1, (takeE s false 1).2.2.2, false, ⟨byteE s false, 0, 0, false, [], [], ⟨#[]⟩⟩⟩
/-- what it ends with -/
def rdP (s : ByteArray) : Rd := (rd0 s).steps (fieldsOf (byteE s false))
/-- whether it is good -/
def parseP (s : ByteArray) : Prop := (rdP s).bad = false ∧ (rdP s).s.size = 0 ∧ (rdP s).wrong = false ∧ 1 ≤ (byteE s false : Int) ∧ (byteE s false : Int) ≤ 13

theorem byteE_lt (s : ByteArray) (bad : Bool) : byteE s bad < 256 := by
  unfold byteE
  split
  · decide
  · exact UInt8.toNat_lt _

theorem oend_cases (bad : Bool) (n : Nat) : (bad = false ∧ n = 0 ∧ (if bad = true then (5 : Int) else if n = 0 then 0 else 5) = 0) ∨ (¬ (bad = false ∧ n = 0) ∧ (if bad = true then (5 : Int) else if n = 0 then 0 else 5) = 5) := by
  cases bad
  · by_cases h : n = 0
    · exact .inl ⟨rfl, h, by simp [h]⟩
    · exact .inr ⟨fun e => h e.2, by simp [h]⟩
  · exact .inr ⟨fun e => by simp at e, by simp⟩

/-- a command stored cell by cell -/
def put7 (W : World) (N : Nat) (c : Cmd) (p d : Value) : World :=
  ((((((W.setCell ⟨N, 0, none⟩ (.int .i64 c.kind)).setCell ⟨N, 1, none⟩ (.int .i64 c.id)).setCell ⟨N, 2, none⟩ (.int .i64 c.n)).setCell ⟨N, 3, none⟩ (.bool c.good)).setCell ⟨N, 4, none⟩ p).setCell ⟨N, 5, none⟩ d).setCell ⟨N, 6, none⟩ (.string c.data)
theorem put7_heap {W : World} {N t : Nat} {c : Cmd} {p d : Value} (h : W.heap[N]? = some (.cells (c.vals p d) t (0, 0))) (c' : Cmd) (p' d' : Value) :
    (put7 W N c' p' d').heap[N]? = some (.cells (c'.vals p' d') t (0, 0)) := by
  have h1 := heap_set (heap_set (heap_set (heap_set (heap_set (heap_set (heap_set h 0 (.int .i64 c'.kind)) 1 (.int .i64 c'.id)) 2 (.int .i64 c'.n)) 3 (.bool c'.good)) 4 p') 5 d') 6 (.string c'.data)
  simp only [Cmd.vals, List.setIfInBounds_toArray, List.set_cons_zero, List.set_cons_succ] at h1
  exact h1
theorem put7_below {B : Nat} {w W : World} (h : Below B w W) (N : Nat) (hN : B ≤ N) (c' : Cmd) (p' d' : Value) : Below B w (put7 W N c' p' d') :=
  ((((((h.setCell (p := ⟨N, 0, none⟩) hN _).setCell (p := ⟨N, 1, none⟩) hN _).setCell (p := ⟨N, 2, none⟩) hN _).setCell (p := ⟨N, 3, none⟩) hN _).setCell (p := ⟨N, 4, none⟩) hN _).setCell (p := ⟨N, 5, none⟩) hN _).setCell (p := ⟨N, 6, none⟩) hN _
theorem put7_size (W : World) (N : Nat) (c' : Cmd) (p' d' : Value) : (put7 W N c' p' d').heap.size = W.heap.size := by simp [put7, World.setCell]
theorem put7_other (W : World) (N : Nat) (c' : Cmd) (p' d' : Value) (k : Nat) (hk : k ≠ N) : (put7 W N c' p' d').heap[k]? = W.heap[k]? := by
  unfold put7
  rw [Below.heap_setCell _ _ _ _ hk, Below.heap_setCell _ _ _ _ hk, Below.heap_setCell _ _ _ _ hk, Below.heap_setCell _ _ _ _ hk, Below.heap_setCell _ _ _ _ hk, Below.heap_setCell _ _ _ _ hk, Below.heap_setCell _ _ _ _ hk]

set_option maxRecDepth 100000 in
set_option maxHeartbeats 1000000 in
theorem parse_calls (s : ByteArray) (w : World) (hs : (s.size : Int) ≤ 100000000) :
    Calls Try.prog 19 #[.string s] w fun e w' => ∃ c p d k, e = .returned (.tuple #[.agg (c.vals p d), .int .i64 k]) ∧ Sl w' w.heap.size w'.heap.size p c.pr ∧ Sl w' w.heap.size w'.heap.size d c.dr ∧
      (parseP s → c = (rdP s).c ∧ k = 0) ∧ (¬ parseP s → c = Cmd.zero ∧ k = 5) ∧ Below w.heap.size w w' := by
  go_enter Try.func19, Try.ntmps19
  go_upto_region 2 with (go_at_call 39; refine (of_calls s _).mono ?_; rintro e w1 ⟨rfl, rfl⟩)
  (try simp only [Act.put, List.setIfInBounds_toArray, List.set_cons_zero, List.set_cons_succ])
  obtain ⟨N, hN⟩ : ∃ N, w.heap.size = N := ⟨_, rfl⟩
  generalize hW : ((w.alloc (.cells #[.int .i64 0, .int .i64 0, .int .i64 0, .bool false, .slice none 0 0, .slice none 0 0, .string ⟨#[]⟩] 24)).alloc (.cells #[.string s, .bool false] 105)).alloc (.cells #[.pointer (some ⟨w.heap.size + 1, 0, none⟩), .bool false] 73) = W
  have hbW : Below w.heap.size w W := by rw [← hW]; exact (((Below.refl _ w).alloc (Nat.le_refl _) _).alloc (by simp) _).alloc (by simp; omega) _
  have hWs : W.heap.size = w.heap.size + 3 := by rw [← hW]; simp
  have hW2 : W.heap[w.heap.size + 2]? = some (.cells #[.pointer (some ⟨w.heap.size + 1, 0, none⟩), .bool false] 73 (0, 0)) := by
    rw [← hW]
    have := heap_alloc_new ((w.alloc (.cells #[.int .i64 0, .int .i64 0, .int .i64 0, .bool false, .slice none 0 0, .slice none 0 0, .string ⟨#[]⟩] 24)).alloc (.cells #[.string s, .bool false] 105)) (.cells #[.pointer (some ⟨w.heap.size + 1, 0, none⟩), .bool false] 73)
    simpa using this
  have hW1 : EyeAt (w.heap.size + 1) s false W := by
    rw [← hW]
    unfold EyeAt
    rw [Below.heap_alloc _ _ _ (by simp)]
    exact heap_alloc_new2 _ _ _
  have hW0 : W.heap[w.heap.size]? = some (.cells (Cmd.zero.vals (.slice none 0 0) (.slice none 0 0)) 24 (0, 0)) := by
    rw [← hW, Below.heap_alloc _ _ _ (by simp; omega)]
    exact heap_two _ _ _
  clear hW
  have hbW' := hbW
  rw [hN] at hbW hWs hW2 hW1 hW0 ⊢
  have c20 : W.cell? ⟨N + 1 + 1, 0, none⟩ = some (.pointer (some ⟨N + 1, 0, none⟩)) := by rw [Lib.cell_of_heap hW2]; rfl
  have hby := eye_byte (N + 1) s false W hW1 hs
  have hv : (if false = true ∨ s.size < 1 then (0 : Int) else (s.data.toList.getD 0 0).toNat) = (byteE s false : Int) := by unfold byteE; split <;> rfl
  rw [hv] at hby
  have hk256 := byteE_lt s false
  have hr0 : rd0 s = ⟨(takeE s false 1).2.2.1, (takeE s false 1).2.2.2, false, ⟨byteE s false, 0, 0, false, [], [], ⟨#[]⟩⟩⟩ := rfl
  have hrP : rdP s = (rd0 s).steps (fieldsOf (byteE s false)) := rfl
  have htz := takeE_size s false 1
  have hpP : parseP s ↔ ((rdP s).bad = false ∧ (rdP s).s.size = 0 ∧ (rdP s).wrong = false ∧ 1 ≤ (byteE s false : Int) ∧ (byteE s false : Int) ≤ 13) := Iff.rfl
  generalize byteE s false = kn at hby hk256 hr0 hrP hpP
  generalize takeE s false 1 = q at hby hr0 htz
  obtain ⟨q0, q1, s1, bd1⟩ := q
  simp only at hby hr0 htz
  have hvis : ∀ w1, EyeAt (N + 1) s1 bd1 w1 → Out [N + 1] W w1 → Calls Try.prog 28 #[.pointer (some ⟨w1.heap.size, 0, none⟩), .iface 69 (.pointer (some ⟨N + 1 + 1, 0, none⟩))]
      (w1.alloc (.cells #[.int .i64 kn, .int .i64 0, .int .i64 0, .bool false, .slice none 0 0, .slice none 0 0, .string ⟨#[]⟩] 24)) fun e w' => e = .returned (.tuple #[]) ∧
      ∃ pa pc da dc, ReadAt (N + 1 + 1) (N + 1) (rdP s).s (rdP s).bad (rdP s).wrong w' ∧ w'.heap[w1.heap.size]? = some (.cells ((rdP s).c.vals (.slice pa (rdP s).c.pr.length pc) (.slice da (rdP s).c.dr.length dc)) 24 (0, 0)) ∧
        Sl w' (N + 1) w'.heap.size (.slice pa (rdP s).c.pr.length pc) (rdP s).c.pr ∧ Sl w' (N + 1) w'.heap.size (.slice da (rdP s).c.dr.length dc) (rdP s).c.dr ∧ (rdP s).c.kind = kn ∧
        w'.heap[N]? = some (.cells (Cmd.zero.vals (.slice none 0 0) (.slice none 0 0)) 24 (0, 0)) ∧ Below N w w' ∧ N + 3 ≤ w1.heap.size := by
    intro w1 h1 h2
    have hs1 := h2.size
    refine (visit_read (rd0 s) (w1.heap.size + 1) (N + 1 + 1) (N + 1) w1.heap.size _ (by rw [hr0]; simp only; omega) (by omega) (by simp) (by omega) (by omega) ?_).mono ?_
    · rw [hr0]
      refine ⟨⟨?_, ?_, by omega⟩, ⟨.slice none 0 0, .slice none 0 0, heap_alloc_new _ _, World.ownsRow_nil _ _ _ _, World.ownsRow_nil _ _ _ _, fun _ => rfl, fun _ => rfl⟩, rfl, Nat.le_refl _, by simp [Rd.steps], Out.refl _ _⟩
      · rw [Below.heap_alloc _ _ _ (by omega), h2.block _ (by omega) (by simp)]; exact hW2
      · unfold EyeAt; rw [Below.heap_alloc _ _ _ (by omega)]; exact h1
    · rintro e w2 ⟨rfl, hrd, ⟨p, d, hcb, hop, hod, _, _⟩, hkind, hsz, hrl, hout⟩
      have hk0 : (rd0 s).c.kind = kn := by rw [hr0]
      rw [hk0, ← hrP] at hrd hcb hop hod hkind hsz hrl
      obtain ⟨pa, pc, rfl, _, _⟩ := own_slice hop
      obtain ⟨da, dc, rfl, _, _⟩ := own_slice hod
      have hos := hout.size
      simp at hos
      refine ⟨rfl, pa, pc, da, dc, hrd, hcb, (Sl.own (by omega) hop).move (by omega) (Nat.le_refl _) (fun _ _ _ => rfl), (Sl.own (by omega) hod).move (by omega) (Nat.le_refl _) (fun _ _ _ => rfl), hkind, ?_, ?_, by omega⟩
      · rw [hout.block N (by simp; omega) (by simp; omega), Below.heap_alloc _ _ _ (by omega), h2.block N (by omega) (by simp)]; exact hW0
      · have hB1 : Below N W w1 := h2.below (by simp) (by omega)
        have hB2 : Below N (w1.alloc (.cells #[.int .i64 kn, .int .i64 0, .int .i64 0, .bool false, .slice none 0 0, .slice none 0 0, .string ⟨#[]⟩] 24)) w2 := hout.below (by simp; omega) (by simp; omega)
        exact ((hbW.trans hB1).alloc (by omega) _).trans hB2
  have HVS := Lib.hid hvis
  have HPP := Lib.hid hpP
  clear hvis hpP
  generalize hP : rdP s = P at HPP HVS
  have HP := Lib.hid hP
  clear hP
  have HBY := Lib.hid hby
  have HW' := Lib.hid hbW'
  have HNN := Lib.hid hN
  have hWl : N + 2 < W.heap.size := by omega
  clear hv hby hr0 hrP hbW hbW' hW0 hW1 hW2 hWs htz
  go_upto_region 4 with (first | (go_at_call 40; refine HBY.out.mono ?_; rintro e w1 ⟨rfl, h1, h2⟩; have H1 := Lib.hid h1; have H2 := Lib.hid h2; have hz2 := h2.size; clear h1 h2) | (go_at_call 28; refine (HVS.out _ H1.out H2.out).mono ?_; rintro e w2 ⟨rfl, pa, pc, da, dc, h3, h4, h5, h6, h7, h8, h9, h10⟩))
  have hHk := World.block_lt_of_cell? w2 ⟨N, 0, none⟩ (cmd_cells h8).1
  have hen : Calls Try.prog 41 #[.pointer (some ⟨N + 1, 0, none⟩)] w2 fun e w' => e = .returned (.int .i64 (if P.bad = true then 5 else if P.s.size = 0 then 0 else 5)) ∧ w2 = w' := (eye_end (N + 1) P.s P.bad w2 h3.2.1).mono fun e w' ⟨h1, h2⟩ => ⟨h1, h2.symm⟩
  obtain ⟨r0, r1, _⟩ := h3.cells
  obtain ⟨k0, k1, k2, k3, k4, k5, k6, _⟩ := cmd_cells h4
  obtain ⟨y0, y1, y2, y3, y4, y5, y6, yf⟩ := cmd_cells h8
  have f0 := yf 0
  have f1 := yf 1
  have f2 := yf 2
  have f3 := yf 3
  have f4 := yf 4
  have f5 := yf 5
  have f6 := yf 6
  have H4 := Lib.hid h4
  have HZ := Lib.hid h8
  have H5 := Lib.hid h5
  have H6 := Lib.hid h6
  have H9 := Lib.hid h9
  have HC := Lib.hid (show N + 3 ≤ w1.heap.size from h10)
  have hNm := name_calls P.c.kind
  have hkd : P.c.kind = kn := h7
  rcases oend_cases P.bad P.s.size with ⟨hb1, hb2, hE⟩ | ⟨hb, hE⟩
  · rw [hE] at hen
    have HEN := Lib.hid hen
    have HB1 := Lib.hid hb1
    have HB2 := Lib.hid hb2
    generalize hwr : P.wrong = wr at *
    have HWR := Lib.hid hwr
    have HKD := Lib.hid hkd
    by_cases hk13 : 1 ≤ P.c.kind ∧ P.c.kind ≤ 13
    · have hne := nameB_full P.c.kind hk13
      obtain ⟨nb, hnb⟩ : ∃ nb, nameB P.c.kind = nb := ⟨_, rfl⟩
      rw [hnb] at hne hNm
      have hne2 : nb.toList.isEmpty = false := by simpa using hne
      have HNM := Lib.hid hNm
      have HK13 := Lib.hid hk13
      clear hb1 hb2 hE hwr hnb hne hk13 hkd hen h3 h4 h5 h6 h7 h8 h9 h10 yf hNm
      cases wr with
      | true =>
        go_wp2_with (first | (go_at_call 41; refine HEN.out.mono ?_; rintro e w3 ⟨rfl, rfl⟩) | (go_at_call 12; refine (HNM.out _).mono ?_; rintro e w3 ⟨rfl, hb3⟩; have hn3 := (hb3.block N (lt_of_block HZ.out)).trans HZ.out; obtain ⟨y0, y1, y2, y3, y4, y5, y6, yf⟩ := cmd_cells hn3; have f0 := yf 0; have f1 := yf 1; have f2 := yf 2; have f3 := yf 3; have f4 := yf 4; have f5 := yf 5; have f6 := yf 6; have HN3 := Lib.hid hn3; have HB3 := Lib.hid hb3; have hk3 := (hb3.block w1.heap.size (lt_of_block H4.out)).trans H4.out; obtain ⟨k0, k1, k2, k3, k4, k5, k6, _⟩ := cmd_cells hk3; clear yf hn3 hk3 hb3))
        refine bodyPost_ret (results_row_tmp rfl _ _ N 24 (Cmd.zero.vals (.slice none 0 0) (.slice none 0 0)) (0, 0) _ rfl (put7_heap HZ.out Cmd.zero (.slice none 0 0) (.slice none 0 0)) Try.underlying24 rfl (by kernel_rfl)) rfl ?_
        have hN := HNN.out
        subst hN
        refine ⟨Cmd.zero, .slice none 0 0, .slice none 0 0, 5, rfl, Sl.nil _ _ _ _ _, Sl.nil _ _ _ _ _, fun hp => ?_, fun _ => ⟨rfl, rfl⟩, put7_below H9.out _ (Nat.le_refl _) Cmd.zero (.slice none 0 0) (.slice none 0 0)⟩
        have hp := HPP.out.1 hp
        exact absurd hp.2.2.1 (by simp)
      | false =>
        go_wp2_with (first | (go_at_call 41; refine HEN.out.mono ?_; rintro e w3 ⟨rfl, rfl⟩) | (go_at_call 12; refine (HNM.out _).mono ?_; rintro e w3 ⟨rfl, hb3⟩; have hn3 := (hb3.block N (lt_of_block HZ.out)).trans HZ.out; obtain ⟨y0, y1, y2, y3, y4, y5, y6, yf⟩ := cmd_cells hn3; have f0 := yf 0; have f1 := yf 1; have f2 := yf 2; have f3 := yf 3; have f4 := yf 4; have f5 := yf 5; have f6 := yf 6; have HN3 := Lib.hid hn3; have HB3 := Lib.hid hb3; have hk3 := (hb3.block w1.heap.size (lt_of_block H4.out)).trans H4.out; obtain ⟨k0, k1, k2, k3, k4, k5, k6, _⟩ := cmd_cells hk3; clear yf hn3 hk3 hb3))
        refine bodyPost_ret (results_row_tmp rfl _ _ N 24 (P.c.vals (.slice pa P.c.pr.length pc) (.slice da P.c.dr.length dc)) (0, 0) _ rfl (put7_heap HN3.out P.c (.slice pa P.c.pr.length pc) (.slice da P.c.dr.length dc)) Try.underlying24 rfl (by kernel_rfl)) rfl ?_
        have hN := HNN.out
        subst hN
        have hmv : ∀ k, w.heap.size + 1 ≤ k → k < w2.heap.size → (put7 w3 w.heap.size P.c (.slice pa P.c.pr.length pc) (.slice da P.c.dr.length dc)).heap[k]? = w2.heap[k]? := fun k h1 h2 => by
          rw [put7_other _ _ _ _ _ _ (by omega)]
          exact HB3.out.block k h2
        have hsz : w2.heap.size ≤ (put7 w3 w.heap.size P.c (.slice pa P.c.pr.length pc) (.slice da P.c.dr.length dc)).heap.size := by rw [put7_size]; exact HB3.out.size
        refine ⟨P.c, _, _, 0, rfl, H5.out.move (Nat.le_succ _) hsz hmv, H6.out.move (Nat.le_succ _) hsz hmv, fun _ => ⟨by rw [HP.out], rfl⟩, fun hn => absurd (HPP.out.2 ⟨HB1.out, HB2.out, by first | rfl | trivial, by have := HKD.out; rw [← this]; exact HK13.out⟩) hn, put7_below (H9.out.trans (HB3.out.mono (Nat.le_of_lt (lt_of_block HZ.out)))) _ (Nat.le_refl _) P.c _ _⟩
    · rw [nameB_empty _ (by omega)] at hNm
      have HNM := Lib.hid hNm
      have HK13 := Lib.hid hk13
      clear hb1 hb2 hE hwr hk13 hkd hen h3 h4 h5 h6 h7 h8 h9 h10 yf hNm
      cases wr with
      | true =>
        go_wp2_with (first | (go_at_call 41; refine HEN.out.mono ?_; rintro e w3 ⟨rfl, rfl⟩) | (go_at_call 12; refine (HNM.out _).mono ?_; rintro e w3 ⟨rfl, hb3⟩; have hn3 := (hb3.block N (lt_of_block HZ.out)).trans HZ.out; obtain ⟨y0, y1, y2, y3, y4, y5, y6, yf⟩ := cmd_cells hn3; have f0 := yf 0; have f1 := yf 1; have f2 := yf 2; have f3 := yf 3; have f4 := yf 4; have f5 := yf 5; have f6 := yf 6; have HN3 := Lib.hid hn3; have HB3 := Lib.hid hb3; have hk3 := (hb3.block w1.heap.size (lt_of_block H4.out)).trans H4.out; obtain ⟨k0, k1, k2, k3, k4, k5, k6, _⟩ := cmd_cells hk3; clear yf hn3 hk3 hb3))
        refine bodyPost_ret (results_row_tmp rfl _ _ N 24 (Cmd.zero.vals (.slice none 0 0) (.slice none 0 0)) (0, 0) _ rfl (put7_heap HZ.out Cmd.zero (.slice none 0 0) (.slice none 0 0)) Try.underlying24 rfl (by kernel_rfl)) rfl ?_
        have hN := HNN.out
        subst hN
        refine ⟨Cmd.zero, .slice none 0 0, .slice none 0 0, 5, rfl, Sl.nil _ _ _ _ _, Sl.nil _ _ _ _ _, fun hp => ?_, fun _ => ⟨rfl, rfl⟩, put7_below H9.out _ (Nat.le_refl _) Cmd.zero (.slice none 0 0) (.slice none 0 0)⟩
        have hp := HPP.out.1 hp
        exact absurd hp.2.2.1 (by simp)
      | false =>
        go_wp2_with (first | (go_at_call 41; refine HEN.out.mono ?_; rintro e w3 ⟨rfl, rfl⟩) | (go_at_call 12; refine (HNM.out _).mono ?_; rintro e w3 ⟨rfl, hb3⟩; have hn3 := (hb3.block N (lt_of_block HZ.out)).trans HZ.out; obtain ⟨y0, y1, y2, y3, y4, y5, y6, yf⟩ := cmd_cells hn3; have f0 := yf 0; have f1 := yf 1; have f2 := yf 2; have f3 := yf 3; have f4 := yf 4; have f5 := yf 5; have f6 := yf 6; have HN3 := Lib.hid hn3; have HB3 := Lib.hid hb3; have hk3 := (hb3.block w1.heap.size (lt_of_block H4.out)).trans H4.out; obtain ⟨k0, k1, k2, k3, k4, k5, k6, _⟩ := cmd_cells hk3; clear yf hn3 hk3 hb3))
        refine bodyPost_ret (results_row_tmp rfl _ _ N 24 (Cmd.zero.vals (.slice none 0 0) (.slice none 0 0)) (0, 0) _ rfl (put7_heap HN3.out Cmd.zero (.slice none 0 0) (.slice none 0 0)) Try.underlying24 rfl (by kernel_rfl)) rfl ?_
        have hN := HNN.out
        subst hN
        refine ⟨Cmd.zero, .slice none 0 0, .slice none 0 0, 5, rfl, Sl.nil _ _ _ _ _, Sl.nil _ _ _ _ _, fun hp => ?_, fun _ => ⟨rfl, rfl⟩, put7_below (H9.out.trans (HB3.out.mono (Nat.le_of_lt (lt_of_block HZ.out)))) _ (Nat.le_refl _) Cmd.zero (.slice none 0 0) (.slice none 0 0)⟩
        have hp := HPP.out.1 hp
        exact absurd hp.2.2.2 (by have := HKD.out; rw [← this]; exact HK13.out)
  · rw [hE] at hen
    have HEN := Lib.hid hen
    have HBD := Lib.hid hb
    have HNM := Lib.hid hNm
    clear hb hE hkd hen h3 h4 h5 h6 h7 h8 h9 h10 yf hNm
    go_wp2_with (first | (go_at_call 41; refine HEN.out.mono ?_; rintro e w3 ⟨rfl, rfl⟩) | (go_at_call 12; refine (HNM.out _).mono ?_; rintro e w3 ⟨rfl, hb3⟩; have hn3 := (hb3.block N (lt_of_block HZ.out)).trans HZ.out; obtain ⟨y0, y1, y2, y3, y4, y5, y6, yf⟩ := cmd_cells hn3; have f0 := yf 0; have f1 := yf 1; have f2 := yf 2; have f3 := yf 3; have f4 := yf 4; have f5 := yf 5; have f6 := yf 6; have HN3 := Lib.hid hn3; have HB3 := Lib.hid hb3; have hk3 := (hb3.block w1.heap.size (lt_of_block H4.out)).trans H4.out; obtain ⟨k0, k1, k2, k3, k4, k5, k6, _⟩ := cmd_cells hk3; clear yf hn3 hk3 hb3))
    refine bodyPost_ret (results_row_tmp rfl _ _ N 24 (Cmd.zero.vals (.slice none 0 0) (.slice none 0 0)) (0, 0) _ rfl (put7_heap HZ.out Cmd.zero (.slice none 0 0) (.slice none 0 0)) Try.underlying24 rfl (by kernel_rfl)) rfl ?_
    have hN := HNN.out
    subst hN
    refine ⟨Cmd.zero, .slice none 0 0, .slice none 0 0, 5, rfl, Sl.nil _ _ _ _ _, Sl.nil _ _ _ _ _, fun hp => ?_, fun _ => ⟨rfl, rfl⟩, put7_below H9.out _ (Nat.le_refl _) Cmd.zero (.slice none 0 0) (.slice none 0 0)⟩
    have hp := HPP.out.1 hp
    exact absurd ⟨hp.1, hp.2.1⟩ HBD.out
end Go.Proofs.Ytbedamkeeongfaa
