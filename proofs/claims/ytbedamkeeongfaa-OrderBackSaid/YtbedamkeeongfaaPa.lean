/- The reference's Good in plain words. -/
import Derived.Test.YtbedamkeeongfaaOz
import Derived.Test.YtbedamkeeongfaaOi
import Derived.Deep.QuietTactic
import Derived.BigQuiet
namespace Go.Proofs.Ytbedamkeeongfaa
open Go.RowKit Go.Proofs.Ytbedamkeeongfaa.Mem Go.Proofs.Ytbedamkeeongfaa.POrderExact Go.Proofs.YtbedamkeeongfaaW.PrintWords Go.Proofs.YtbedamkeeongfaaW.PrintLast Go.Proofs.YtbedamkeeongfaaW.PrintMore
set_option linter.unusedVariables false

theorem Sl.drewN {w : World} {A B : Nat} {v : Value} {xs : List Int} (h : Sl w A B v xs) (n : Nat) : Sl (w.drewN n) A B v xs := h
theorem below_drewN {B : Nat} {w w' : World} (h : Below B w w') (n : Nat) : Below B w (w'.drewN n) := ⟨h.os, h.tape, h.output, h.size, h.block⟩

/-- a bool is returned that tells whether P; nothing that was there has changed -/
def BoolIff (P : Prop) (w : World) (e : Ending) (w' : World) : Prop := ∃ r, e = .returned (.bool r) ∧ (r = true ↔ P) ∧ Below w.heap.size w w'

/-- what the first test finds -/
def good1 (b1 b2 f1 f2 f3 : Bool) (id n : Int) (g : Bool) : Bool := b1 && b2 && (decide (id = 0) || f1) && (decide (n = 0) || f2) && (!g || f3)
/-- what the second test finds -/
def good2 (b4 b5 f6 : Bool) (data : ByteArray) : Bool := b4 && b5 && decide ((data.size : Int) ≤ 1024) && (decide (data = ⟨#[]⟩) || f6)
theorem goodP_iff (c : Cmd) : goodP c ↔ (1 ≤ c.kind ∧ c.kind ≤ 13) ∧ good1 (numB c.id) (numB c.n) (decide (1 ∈ fieldsOf c.kind)) (decide (2 ∈ fieldsOf c.kind)) (decide (3 ∈ fieldsOf c.kind)) c.id c.n c.good = true ∧
    good2 (listB c.pr (decide (4 ∈ fieldsOf c.kind))) (listB c.dr (decide (5 ∈ fieldsOf c.kind))) (decide (6 ∈ fieldsOf c.kind)) c.data = true := by
  obtain ⟨kind, id, n, good, pr, dr, data⟩ := c
  simp only [goodP, good1, good2, listB, Cmd.rest, Cmd.mk.injEq, true_and, Bool.and_eq_true, Bool.or_eq_true, decide_eq_true_eq, Bool.not_eq_true']
  constructor
  · rintro ⟨h0, ⟨h1, h2, h3, h4, h5, h6⟩, q1, q2, q3, q4, q5⟩
    refine ⟨h0, ⟨⟨⟨⟨q1, q2⟩, ?_⟩, ?_⟩, ?_⟩, ⟨⟨⟨q3, ?_⟩, q4, ?_⟩, q5⟩, ?_⟩
    · by_cases h : 1 ∈ fieldsOf kind
      · exact .inr h
      · rw [if_neg h] at h1; exact .inl h1
    · by_cases h : 2 ∈ fieldsOf kind
      · exact .inr h
      · rw [if_neg h] at h2; exact .inl h2
    · by_cases h : 3 ∈ fieldsOf kind
      · exact .inr h
      · rw [if_neg h] at h3; exact .inl h3
    · by_cases h : 4 ∈ fieldsOf kind
      · exact .inl h
      · rw [if_neg h] at h4; exact .inr h4
    · by_cases h : 5 ∈ fieldsOf kind
      · exact .inl h
      · rw [if_neg h] at h5; exact .inr h5
    · by_cases h : 6 ∈ fieldsOf kind
      · exact .inr h
      · rw [if_neg h] at h6; exact .inl h6
  · rintro ⟨h0, ⟨⟨⟨⟨q1, q2⟩, h1⟩, h2⟩, h3⟩, ⟨⟨⟨q3, h4⟩, q4, h5⟩, q5⟩, h6⟩
    refine ⟨h0, ⟨?_, ?_, ?_, ?_, ?_, ?_⟩, q1, q2, q3, q4, q5⟩
    all_goals
      split
      · rfl
      · simp_all

set_option maxRecDepth 100000 in
set_option maxHeartbeats 4000000 in
theorem refgood_calls (c : Cmd) (p d : Value) (A B : Nat) (w : World) (hp : Sl w A B p c.pr) (hd : Sl w A B d c.dr) (hB : B ≤ w.heap.size) :
    Calls Try.prog 8 #[.agg (c.vals p d)] w (BoolIff (goodP c) w) := by
  obtain ⟨pa, pc, rfl⟩ := hp.slice
  obtain ⟨da, dc, rfl⟩ := hd.slice
  have HP := Lib.hid hp
  have HD := Lib.hid hd
  clear hp hd
  by_cases hk : 1 ≤ c.kind ∧ c.kind ≤ 13
  · have hN := fun w => refname_calls c.kind w
    obtain ⟨nb, hnb⟩ : ∃ nb, nameB c.kind = nb := ⟨_, rfl⟩
    have hne := nameB_full c.kind hk
    rw [hnb] at hne hN
    have hne2 : nb.toList.isEmpty = false := by simpa using hne
    have HGP := Lib.hid (goodP_iff c)
    have HK := Lib.hid hk
    have hq1 := fun w => refnum_calls c.id w
    have hq2 := fun w => refnum_calls c.n w
    have hf1 := fun w => has1_calls c.kind 1 (by simp) 105 rfl w
    have hf2 := fun w => has1_calls c.kind 2 (by simp) 110 rfl w
    have hf3 := fun w => has1_calls c.kind 3 (by simp) 103 rfl w
    have hf4 := fun w => has1_calls c.kind 4 (by simp) 112 rfl w
    have hf5 := fun w => has1_calls c.kind 5 (by simp) 100 rfl w
    have hf6 := fun w => has1_calls c.kind 6 (by simp) 116 rfl w
    generalize numB c.id = b1 at HGP hq1
    generalize numB c.n = b2 at HGP hq2
    generalize decide (1 ∈ fieldsOf c.kind) = g1 at HGP hf1
    generalize decide (2 ∈ fieldsOf c.kind) = g2 at HGP hf2
    generalize decide (3 ∈ fieldsOf c.kind) = g3 at HGP hf3
    generalize decide (4 ∈ fieldsOf c.kind) = g4 at HGP hf4
    generalize decide (5 ∈ fieldsOf c.kind) = g5 at HGP hf5
    generalize decide (6 ∈ fieldsOf c.kind) = g6 at HGP hf6
    have hl4 := fun w (h : Sl w A B (.slice pa c.pr.length pc) c.pr) => list_calls A B _ c.pr g4 w h
    have hl5 := fun w (h : Sl w A B (.slice da c.dr.length dc) c.dr) => list_calls A B _ c.dr g5 w h
    generalize listB c.pr g4 = l4 at HGP hl4
    generalize listB c.dr g5 = l5 at HGP hl5
    clear hne hnb hk
    go_enter Try.func8, Try.ntmps8
    go_upto_region 1 with fail
    (try simp only [Act.put, List.setIfInBounds_toArray, List.set_cons_zero, List.set_cons_succ])
    generalize hW : w.alloc (.cells (c.vals (.slice pa c.pr.length pc) (.slice da c.dr.length dc)) 27) = W
    have hbW : Below w.heap.size w W := by rw [← hW]; exact (Below.refl _ w).alloc (Nat.le_refl _) _
    have hb : W.heap[w.heap.size]? = some (.cells (c.vals (.slice pa c.pr.length pc) (.slice da c.dr.length dc)) 27 (0, 0)) := by rw [← hW]; exact heap_alloc_new _ _
    clear hW
    obtain ⟨c0, c1, c2, c3, c4, c5, c6, _⟩ := cmd_cells hb
    have hlt : w.heap.size < W.heap.size := lt_of_block hb
    have HB := Lib.hid hb
    have HW := Lib.hid hbW
    clear hb hbW
    go_upto_region 2 with fail
    go_cut [49] from 4 (fun s49 wx => s49 = .bool (!(good1 b1 b2 g1 g2 g3 c.id c.n c.good)) ∧ ∃ w1, w1.heap[w.heap.size]? = some (.cells (c.vals (.slice pa c.pr.length pc) (.slice da c.dr.length dc)) 27 (0, 0)) ∧ Below W.heap.size W w1 ∧ ∃ n, wx = w1.drewN n)
    case first =>
      cases b1 with
      | false =>
        go_wp2_with (first | (go_at_call 13; refine (hN _).mono ?_; rintro e w1 ⟨rfl, h1⟩; have hb1 := (h1.block w.heap.size hlt).trans HB.out; obtain ⟨e0, e1, e2, e3, e4, e5, e6, _⟩ := cmd_cells hb1; have HB1 := Lib.hid hb1; have H1 := Lib.hid h1; clear h1 hb1) | (go_at_call 24; first | ((with_reducible refine (hq1 _).mono ?_); rintro e w2 ⟨rfl, ⟨n2, rfl⟩⟩) | ((with_reducible refine (hq2 _).mono ?_); rintro e w3 ⟨rfl, ⟨n3, rfl⟩⟩)) | (go_at_call 25; first | ((with_reducible refine (hf1 _).mono ?_); rintro e w4 ⟨rfl, ⟨n4, rfl⟩⟩) | ((with_reducible refine (hf2 _).mono ?_); rintro e w5 ⟨rfl, ⟨n5, rfl⟩⟩) | ((with_reducible refine (hf3 _).mono ?_); rintro e w6 ⟨rfl, ⟨n6, rfl⟩⟩)))
        go_meet
        case rel => exact ⟨by simp [good1], w1, HB1.out, H1.out, _, rfl⟩
      | true =>
        cases b2 with
        | false =>
          go_wp2_with (first | (go_at_call 13; refine (hN _).mono ?_; rintro e w1 ⟨rfl, h1⟩; have hb1 := (h1.block w.heap.size hlt).trans HB.out; obtain ⟨e0, e1, e2, e3, e4, e5, e6, _⟩ := cmd_cells hb1; have HB1 := Lib.hid hb1; have H1 := Lib.hid h1; clear h1 hb1) | (go_at_call 24; first | ((with_reducible refine (hq1 _).mono ?_); rintro e w2 ⟨rfl, ⟨n2, rfl⟩⟩) | ((with_reducible refine (hq2 _).mono ?_); rintro e w3 ⟨rfl, ⟨n3, rfl⟩⟩)) | (go_at_call 25; first | ((with_reducible refine (hf1 _).mono ?_); rintro e w4 ⟨rfl, ⟨n4, rfl⟩⟩) | ((with_reducible refine (hf2 _).mono ?_); rintro e w5 ⟨rfl, ⟨n5, rfl⟩⟩) | ((with_reducible refine (hf3 _).mono ?_); rintro e w6 ⟨rfl, ⟨n6, rfl⟩⟩)))
          go_meet
          case rel => exact ⟨by simp [good1], w1, HB1.out, H1.out, _, rfl⟩
        | true =>
          by_cases hi : c.id = 0
          · have ti : (c.id != 0) = false := by simp [hi]
            have HCi := Lib.hid hi
            clear hi
            by_cases hn : c.n = 0
            · have tn : (c.n != 0) = false := by simp [hn]
              have HCn := Lib.hid hn
              clear hn
              obtain ⟨gd, hgd⟩ : ∃ gd, c.good = gd := ⟨_, rfl⟩
              have HCG := Lib.hid hgd
              clear hgd
              cases gd with
              | false =>
                have tg := HCG.out
                go_wp2_with (first | (go_at_call 13; refine (hN _).mono ?_; rintro e w1 ⟨rfl, h1⟩; have hb1 := (h1.block w.heap.size hlt).trans HB.out; obtain ⟨e0, e1, e2, e3, e4, e5, e6, _⟩ := cmd_cells hb1; have HB1 := Lib.hid hb1; have H1 := Lib.hid h1; clear h1 hb1) | (go_at_call 24; first | ((with_reducible refine (hq1 _).mono ?_); rintro e w2 ⟨rfl, ⟨n2, rfl⟩⟩) | ((with_reducible refine (hq2 _).mono ?_); rintro e w3 ⟨rfl, ⟨n3, rfl⟩⟩)) | (go_at_call 25; first | ((with_reducible refine (hf1 _).mono ?_); rintro e w4 ⟨rfl, ⟨n4, rfl⟩⟩) | ((with_reducible refine (hf2 _).mono ?_); rintro e w5 ⟨rfl, ⟨n5, rfl⟩⟩) | ((with_reducible refine (hf3 _).mono ?_); rintro e w6 ⟨rfl, ⟨n6, rfl⟩⟩)))
                go_meet
                case rel => exact ⟨by simp [good1, HCi.out, HCn.out, HCG.out], w1, HB1.out, H1.out, _, rfl⟩
              | true =>
                have tg := HCG.out
                cases g3 with
                | false =>
                  go_wp2_with (first | (go_at_call 13; refine (hN _).mono ?_; rintro e w1 ⟨rfl, h1⟩; have hb1 := (h1.block w.heap.size hlt).trans HB.out; obtain ⟨e0, e1, e2, e3, e4, e5, e6, _⟩ := cmd_cells hb1; have HB1 := Lib.hid hb1; have H1 := Lib.hid h1; clear h1 hb1) | (go_at_call 24; first | ((with_reducible refine (hq1 _).mono ?_); rintro e w2 ⟨rfl, ⟨n2, rfl⟩⟩) | ((with_reducible refine (hq2 _).mono ?_); rintro e w3 ⟨rfl, ⟨n3, rfl⟩⟩)) | (go_at_call 25; first | ((with_reducible refine (hf1 _).mono ?_); rintro e w4 ⟨rfl, ⟨n4, rfl⟩⟩) | ((with_reducible refine (hf2 _).mono ?_); rintro e w5 ⟨rfl, ⟨n5, rfl⟩⟩) | ((with_reducible refine (hf3 _).mono ?_); rintro e w6 ⟨rfl, ⟨n6, rfl⟩⟩)))
                  go_meet
                  case rel => exact ⟨by simp [good1, HCi.out, HCn.out, HCG.out], w1, HB1.out, H1.out, _, rfl⟩
                | true =>
                  go_wp2_with (first | (go_at_call 13; refine (hN _).mono ?_; rintro e w1 ⟨rfl, h1⟩; have hb1 := (h1.block w.heap.size hlt).trans HB.out; obtain ⟨e0, e1, e2, e3, e4, e5, e6, _⟩ := cmd_cells hb1; have HB1 := Lib.hid hb1; have H1 := Lib.hid h1; clear h1 hb1) | (go_at_call 24; first | ((with_reducible refine (hq1 _).mono ?_); rintro e w2 ⟨rfl, ⟨n2, rfl⟩⟩) | ((with_reducible refine (hq2 _).mono ?_); rintro e w3 ⟨rfl, ⟨n3, rfl⟩⟩)) | (go_at_call 25; first | ((with_reducible refine (hf1 _).mono ?_); rintro e w4 ⟨rfl, ⟨n4, rfl⟩⟩) | ((with_reducible refine (hf2 _).mono ?_); rintro e w5 ⟨rfl, ⟨n5, rfl⟩⟩) | ((with_reducible refine (hf3 _).mono ?_); rintro e w6 ⟨rfl, ⟨n6, rfl⟩⟩)))
                  go_meet
                  case rel => exact ⟨by simp [good1, HCi.out, HCn.out, HCG.out], w1, HB1.out, H1.out, _, rfl⟩
            · have tn : (c.n != 0) = true := by simp [hn]
              have HCn := Lib.hid hn
              clear hn
              cases g2 with
              | false =>
                go_wp2_with (first | (go_at_call 13; refine (hN _).mono ?_; rintro e w1 ⟨rfl, h1⟩; have hb1 := (h1.block w.heap.size hlt).trans HB.out; obtain ⟨e0, e1, e2, e3, e4, e5, e6, _⟩ := cmd_cells hb1; have HB1 := Lib.hid hb1; have H1 := Lib.hid h1; clear h1 hb1) | (go_at_call 24; first | ((with_reducible refine (hq1 _).mono ?_); rintro e w2 ⟨rfl, ⟨n2, rfl⟩⟩) | ((with_reducible refine (hq2 _).mono ?_); rintro e w3 ⟨rfl, ⟨n3, rfl⟩⟩)) | (go_at_call 25; first | ((with_reducible refine (hf1 _).mono ?_); rintro e w4 ⟨rfl, ⟨n4, rfl⟩⟩) | ((with_reducible refine (hf2 _).mono ?_); rintro e w5 ⟨rfl, ⟨n5, rfl⟩⟩) | ((with_reducible refine (hf3 _).mono ?_); rintro e w6 ⟨rfl, ⟨n6, rfl⟩⟩)))
                go_meet
                case rel => exact ⟨by simp [good1, HCn.out], w1, HB1.out, H1.out, _, rfl⟩
              | true =>
                obtain ⟨gd, hgd⟩ : ∃ gd, c.good = gd := ⟨_, rfl⟩
                have HCG := Lib.hid hgd
                clear hgd
                cases gd with
                | false =>
                  have tg := HCG.out
                  go_wp2_with (first | (go_at_call 13; refine (hN _).mono ?_; rintro e w1 ⟨rfl, h1⟩; have hb1 := (h1.block w.heap.size hlt).trans HB.out; obtain ⟨e0, e1, e2, e3, e4, e5, e6, _⟩ := cmd_cells hb1; have HB1 := Lib.hid hb1; have H1 := Lib.hid h1; clear h1 hb1) | (go_at_call 24; first | ((with_reducible refine (hq1 _).mono ?_); rintro e w2 ⟨rfl, ⟨n2, rfl⟩⟩) | ((with_reducible refine (hq2 _).mono ?_); rintro e w3 ⟨rfl, ⟨n3, rfl⟩⟩)) | (go_at_call 25; first | ((with_reducible refine (hf1 _).mono ?_); rintro e w4 ⟨rfl, ⟨n4, rfl⟩⟩) | ((with_reducible refine (hf2 _).mono ?_); rintro e w5 ⟨rfl, ⟨n5, rfl⟩⟩) | ((with_reducible refine (hf3 _).mono ?_); rintro e w6 ⟨rfl, ⟨n6, rfl⟩⟩)))
                  go_meet
                  case rel => exact ⟨by simp [good1, HCi.out, HCn.out, HCG.out], w1, HB1.out, H1.out, _, rfl⟩
                | true =>
                  have tg := HCG.out
                  cases g3 with
                  | false =>
                    go_wp2_with (first | (go_at_call 13; refine (hN _).mono ?_; rintro e w1 ⟨rfl, h1⟩; have hb1 := (h1.block w.heap.size hlt).trans HB.out; obtain ⟨e0, e1, e2, e3, e4, e5, e6, _⟩ := cmd_cells hb1; have HB1 := Lib.hid hb1; have H1 := Lib.hid h1; clear h1 hb1) | (go_at_call 24; first | ((with_reducible refine (hq1 _).mono ?_); rintro e w2 ⟨rfl, ⟨n2, rfl⟩⟩) | ((with_reducible refine (hq2 _).mono ?_); rintro e w3 ⟨rfl, ⟨n3, rfl⟩⟩)) | (go_at_call 25; first | ((with_reducible refine (hf1 _).mono ?_); rintro e w4 ⟨rfl, ⟨n4, rfl⟩⟩) | ((with_reducible refine (hf2 _).mono ?_); rintro e w5 ⟨rfl, ⟨n5, rfl⟩⟩) | ((with_reducible refine (hf3 _).mono ?_); rintro e w6 ⟨rfl, ⟨n6, rfl⟩⟩)))
                    go_meet
                    case rel => exact ⟨by simp [good1, HCi.out, HCn.out, HCG.out], w1, HB1.out, H1.out, _, rfl⟩
                  | true =>
                    go_wp2_with (first | (go_at_call 13; refine (hN _).mono ?_; rintro e w1 ⟨rfl, h1⟩; have hb1 := (h1.block w.heap.size hlt).trans HB.out; obtain ⟨e0, e1, e2, e3, e4, e5, e6, _⟩ := cmd_cells hb1; have HB1 := Lib.hid hb1; have H1 := Lib.hid h1; clear h1 hb1) | (go_at_call 24; first | ((with_reducible refine (hq1 _).mono ?_); rintro e w2 ⟨rfl, ⟨n2, rfl⟩⟩) | ((with_reducible refine (hq2 _).mono ?_); rintro e w3 ⟨rfl, ⟨n3, rfl⟩⟩)) | (go_at_call 25; first | ((with_reducible refine (hf1 _).mono ?_); rintro e w4 ⟨rfl, ⟨n4, rfl⟩⟩) | ((with_reducible refine (hf2 _).mono ?_); rintro e w5 ⟨rfl, ⟨n5, rfl⟩⟩) | ((with_reducible refine (hf3 _).mono ?_); rintro e w6 ⟨rfl, ⟨n6, rfl⟩⟩)))
                    go_meet
                    case rel => exact ⟨by simp [good1, HCi.out, HCn.out, HCG.out], w1, HB1.out, H1.out, _, rfl⟩
          · have ti : (c.id != 0) = true := by simp [hi]
            have HCi := Lib.hid hi
            clear hi
            cases g1 with
            | false =>
              go_wp2_with (first | (go_at_call 13; refine (hN _).mono ?_; rintro e w1 ⟨rfl, h1⟩; have hb1 := (h1.block w.heap.size hlt).trans HB.out; obtain ⟨e0, e1, e2, e3, e4, e5, e6, _⟩ := cmd_cells hb1; have HB1 := Lib.hid hb1; have H1 := Lib.hid h1; clear h1 hb1) | (go_at_call 24; first | ((with_reducible refine (hq1 _).mono ?_); rintro e w2 ⟨rfl, ⟨n2, rfl⟩⟩) | ((with_reducible refine (hq2 _).mono ?_); rintro e w3 ⟨rfl, ⟨n3, rfl⟩⟩)) | (go_at_call 25; first | ((with_reducible refine (hf1 _).mono ?_); rintro e w4 ⟨rfl, ⟨n4, rfl⟩⟩) | ((with_reducible refine (hf2 _).mono ?_); rintro e w5 ⟨rfl, ⟨n5, rfl⟩⟩) | ((with_reducible refine (hf3 _).mono ?_); rintro e w6 ⟨rfl, ⟨n6, rfl⟩⟩)))
              go_meet
              case rel => exact ⟨by simp [good1, HCi.out], w1, HB1.out, H1.out, _, rfl⟩
            | true =>
              by_cases hn : c.n = 0
              · have tn : (c.n != 0) = false := by simp [hn]
                have HCn := Lib.hid hn
                clear hn
                obtain ⟨gd, hgd⟩ : ∃ gd, c.good = gd := ⟨_, rfl⟩
                have HCG := Lib.hid hgd
                clear hgd
                cases gd with
                | false =>
                  have tg := HCG.out
                  go_wp2_with (first | (go_at_call 13; refine (hN _).mono ?_; rintro e w1 ⟨rfl, h1⟩; have hb1 := (h1.block w.heap.size hlt).trans HB.out; obtain ⟨e0, e1, e2, e3, e4, e5, e6, _⟩ := cmd_cells hb1; have HB1 := Lib.hid hb1; have H1 := Lib.hid h1; clear h1 hb1) | (go_at_call 24; first | ((with_reducible refine (hq1 _).mono ?_); rintro e w2 ⟨rfl, ⟨n2, rfl⟩⟩) | ((with_reducible refine (hq2 _).mono ?_); rintro e w3 ⟨rfl, ⟨n3, rfl⟩⟩)) | (go_at_call 25; first | ((with_reducible refine (hf1 _).mono ?_); rintro e w4 ⟨rfl, ⟨n4, rfl⟩⟩) | ((with_reducible refine (hf2 _).mono ?_); rintro e w5 ⟨rfl, ⟨n5, rfl⟩⟩) | ((with_reducible refine (hf3 _).mono ?_); rintro e w6 ⟨rfl, ⟨n6, rfl⟩⟩)))
                  go_meet
                  case rel => exact ⟨by simp [good1, HCi.out, HCn.out, HCG.out], w1, HB1.out, H1.out, _, rfl⟩
                | true =>
                  have tg := HCG.out
                  cases g3 with
                  | false =>
                    go_wp2_with (first | (go_at_call 13; refine (hN _).mono ?_; rintro e w1 ⟨rfl, h1⟩; have hb1 := (h1.block w.heap.size hlt).trans HB.out; obtain ⟨e0, e1, e2, e3, e4, e5, e6, _⟩ := cmd_cells hb1; have HB1 := Lib.hid hb1; have H1 := Lib.hid h1; clear h1 hb1) | (go_at_call 24; first | ((with_reducible refine (hq1 _).mono ?_); rintro e w2 ⟨rfl, ⟨n2, rfl⟩⟩) | ((with_reducible refine (hq2 _).mono ?_); rintro e w3 ⟨rfl, ⟨n3, rfl⟩⟩)) | (go_at_call 25; first | ((with_reducible refine (hf1 _).mono ?_); rintro e w4 ⟨rfl, ⟨n4, rfl⟩⟩) | ((with_reducible refine (hf2 _).mono ?_); rintro e w5 ⟨rfl, ⟨n5, rfl⟩⟩) | ((with_reducible refine (hf3 _).mono ?_); rintro e w6 ⟨rfl, ⟨n6, rfl⟩⟩)))
                    go_meet
                    case rel => exact ⟨by simp [good1, HCi.out, HCn.out, HCG.out], w1, HB1.out, H1.out, _, rfl⟩
                  | true =>
                    go_wp2_with (first | (go_at_call 13; refine (hN _).mono ?_; rintro e w1 ⟨rfl, h1⟩; have hb1 := (h1.block w.heap.size hlt).trans HB.out; obtain ⟨e0, e1, e2, e3, e4, e5, e6, _⟩ := cmd_cells hb1; have HB1 := Lib.hid hb1; have H1 := Lib.hid h1; clear h1 hb1) | (go_at_call 24; first | ((with_reducible refine (hq1 _).mono ?_); rintro e w2 ⟨rfl, ⟨n2, rfl⟩⟩) | ((with_reducible refine (hq2 _).mono ?_); rintro e w3 ⟨rfl, ⟨n3, rfl⟩⟩)) | (go_at_call 25; first | ((with_reducible refine (hf1 _).mono ?_); rintro e w4 ⟨rfl, ⟨n4, rfl⟩⟩) | ((with_reducible refine (hf2 _).mono ?_); rintro e w5 ⟨rfl, ⟨n5, rfl⟩⟩) | ((with_reducible refine (hf3 _).mono ?_); rintro e w6 ⟨rfl, ⟨n6, rfl⟩⟩)))
                    go_meet
                    case rel => exact ⟨by simp [good1, HCi.out, HCn.out, HCG.out], w1, HB1.out, H1.out, _, rfl⟩
              · have tn : (c.n != 0) = true := by simp [hn]
                have HCn := Lib.hid hn
                clear hn
                cases g2 with
                | false =>
                  go_wp2_with (first | (go_at_call 13; refine (hN _).mono ?_; rintro e w1 ⟨rfl, h1⟩; have hb1 := (h1.block w.heap.size hlt).trans HB.out; obtain ⟨e0, e1, e2, e3, e4, e5, e6, _⟩ := cmd_cells hb1; have HB1 := Lib.hid hb1; have H1 := Lib.hid h1; clear h1 hb1) | (go_at_call 24; first | ((with_reducible refine (hq1 _).mono ?_); rintro e w2 ⟨rfl, ⟨n2, rfl⟩⟩) | ((with_reducible refine (hq2 _).mono ?_); rintro e w3 ⟨rfl, ⟨n3, rfl⟩⟩)) | (go_at_call 25; first | ((with_reducible refine (hf1 _).mono ?_); rintro e w4 ⟨rfl, ⟨n4, rfl⟩⟩) | ((with_reducible refine (hf2 _).mono ?_); rintro e w5 ⟨rfl, ⟨n5, rfl⟩⟩) | ((with_reducible refine (hf3 _).mono ?_); rintro e w6 ⟨rfl, ⟨n6, rfl⟩⟩)))
                  go_meet
                  case rel => exact ⟨by simp [good1, HCn.out], w1, HB1.out, H1.out, _, rfl⟩
                | true =>
                  obtain ⟨gd, hgd⟩ : ∃ gd, c.good = gd := ⟨_, rfl⟩
                  have HCG := Lib.hid hgd
                  clear hgd
                  cases gd with
                  | false =>
                    have tg := HCG.out
                    go_wp2_with (first | (go_at_call 13; refine (hN _).mono ?_; rintro e w1 ⟨rfl, h1⟩; have hb1 := (h1.block w.heap.size hlt).trans HB.out; obtain ⟨e0, e1, e2, e3, e4, e5, e6, _⟩ := cmd_cells hb1; have HB1 := Lib.hid hb1; have H1 := Lib.hid h1; clear h1 hb1) | (go_at_call 24; first | ((with_reducible refine (hq1 _).mono ?_); rintro e w2 ⟨rfl, ⟨n2, rfl⟩⟩) | ((with_reducible refine (hq2 _).mono ?_); rintro e w3 ⟨rfl, ⟨n3, rfl⟩⟩)) | (go_at_call 25; first | ((with_reducible refine (hf1 _).mono ?_); rintro e w4 ⟨rfl, ⟨n4, rfl⟩⟩) | ((with_reducible refine (hf2 _).mono ?_); rintro e w5 ⟨rfl, ⟨n5, rfl⟩⟩) | ((with_reducible refine (hf3 _).mono ?_); rintro e w6 ⟨rfl, ⟨n6, rfl⟩⟩)))
                    go_meet
                    case rel => exact ⟨by simp [good1, HCi.out, HCn.out, HCG.out], w1, HB1.out, H1.out, _, rfl⟩
                  | true =>
                    have tg := HCG.out
                    cases g3 with
                    | false =>
                      go_wp2_with (first | (go_at_call 13; refine (hN _).mono ?_; rintro e w1 ⟨rfl, h1⟩; have hb1 := (h1.block w.heap.size hlt).trans HB.out; obtain ⟨e0, e1, e2, e3, e4, e5, e6, _⟩ := cmd_cells hb1; have HB1 := Lib.hid hb1; have H1 := Lib.hid h1; clear h1 hb1) | (go_at_call 24; first | ((with_reducible refine (hq1 _).mono ?_); rintro e w2 ⟨rfl, ⟨n2, rfl⟩⟩) | ((with_reducible refine (hq2 _).mono ?_); rintro e w3 ⟨rfl, ⟨n3, rfl⟩⟩)) | (go_at_call 25; first | ((with_reducible refine (hf1 _).mono ?_); rintro e w4 ⟨rfl, ⟨n4, rfl⟩⟩) | ((with_reducible refine (hf2 _).mono ?_); rintro e w5 ⟨rfl, ⟨n5, rfl⟩⟩) | ((with_reducible refine (hf3 _).mono ?_); rintro e w6 ⟨rfl, ⟨n6, rfl⟩⟩)))
                      go_meet
                      case rel => exact ⟨by simp [good1, HCi.out, HCn.out, HCG.out], w1, HB1.out, H1.out, _, rfl⟩
                    | true =>
                      go_wp2_with (first | (go_at_call 13; refine (hN _).mono ?_; rintro e w1 ⟨rfl, h1⟩; have hb1 := (h1.block w.heap.size hlt).trans HB.out; obtain ⟨e0, e1, e2, e3, e4, e5, e6, _⟩ := cmd_cells hb1; have HB1 := Lib.hid hb1; have H1 := Lib.hid h1; clear h1 hb1) | (go_at_call 24; first | ((with_reducible refine (hq1 _).mono ?_); rintro e w2 ⟨rfl, ⟨n2, rfl⟩⟩) | ((with_reducible refine (hq2 _).mono ?_); rintro e w3 ⟨rfl, ⟨n3, rfl⟩⟩)) | (go_at_call 25; first | ((with_reducible refine (hf1 _).mono ?_); rintro e w4 ⟨rfl, ⟨n4, rfl⟩⟩) | ((with_reducible refine (hf2 _).mono ?_); rintro e w5 ⟨rfl, ⟨n5, rfl⟩⟩) | ((with_reducible refine (hf3 _).mono ?_); rintro e w6 ⟨rfl, ⟨n6, rfl⟩⟩)))
                      go_meet
                      case rel => exact ⟨by simp [good1, HCi.out, HCn.out, HCG.out], w1, HB1.out, H1.out, _, rfl⟩
    case rest =>
      obtain ⟨rfl, w1, hb1, h1, n, rfl⟩ := hcut
      have hbn : (w1.drewN n).heap[w.heap.size]? = some (.cells (c.vals (.slice pa c.pr.length pc) (.slice da c.dr.length dc)) 27 (0, 0)) := hb1
      have SP1 := Lib.hid (Sl.below (A' := A) (B' := B) HP.out ((HW.out.mono hB).trans ((below_drewN h1 n).mono (Nat.le_trans hB (Nat.le_of_lt hlt)))) (Nat.le_refl _) (Nat.le_refl _))
      have SD1 := Lib.hid (Sl.below (A' := A) (B' := B) HD.out ((HW.out.mono hB).trans ((below_drewN h1 n).mono (Nat.le_trans hB (Nat.le_of_lt hlt)))) (Nat.le_refl _) (Nat.le_refl _))
      have HF1 := Lib.hid (show Below w.heap.size w (w1.drewN n) from HW.out.trans ((below_drewN h1 n).mono (Nat.le_of_lt hlt)))
      have HBN := Lib.hid hbn
      obtain ⟨G, hG⟩ : ∃ G, good1 b1 b2 g1 g2 g3 c.id c.n c.good = G := ⟨_, rfl⟩
      rw [hG]
      have HG1 := Lib.hid hG
      clear hG hb1 h1 hbn c0 c1 c2 c3 c4 c5 c6
      generalize w1.drewN n = W2 at *
      cases G with
      | false =>
        go_wp2
        go_ret
        unfold BoolIff
        exact ⟨false, rfl, by rw [HGP.out, HG1.out]; simp, HF1.out⟩
      | true =>
        go_upto_region 4 with fail
        obtain ⟨e0, e1, e2, e3, e4, e5, e6, _⟩ := cmd_cells HBN.out
        cases l4 with
        | false =>
          go_quiet ((first | (go_at_call 25; first | (with_reducible exact Calls.quiet_of ((hf4 _).mono fun _ _ h => ⟨h.1, h.2.out⟩)) | (with_reducible exact Calls.quiet_of ((hf5 _).mono fun _ _ h => ⟨h.1, h.2.out⟩)) | (with_reducible exact Calls.quiet_of ((hf6 _).mono fun _ _ h => ⟨h.1, h.2.out⟩))) | (go_at_call 26; first | (with_reducible exact Calls.quiet_of ((hl4 _ (Sl.drewN SP1.out _)).mono fun _ _ h => ⟨h.1, h.2.out⟩)) | (with_reducible exact Calls.quiet_of ((hl5 _ (Sl.drewN SD1.out _)).mono fun _ _ h => ⟨h.1, h.2.out⟩)))))
          go_wp2
          go_ret
          unfold BoolIff
          exact ⟨false, rfl, by rw [HGP.out, HG1.out]; simp [good2, HK.out], below_drewN HF1.out _⟩
        | true =>
          cases l5 with
          | false =>
            go_quiet ((first | (go_at_call 25; first | (with_reducible exact Calls.quiet_of ((hf4 _).mono fun _ _ h => ⟨h.1, h.2.out⟩)) | (with_reducible exact Calls.quiet_of ((hf5 _).mono fun _ _ h => ⟨h.1, h.2.out⟩)) | (with_reducible exact Calls.quiet_of ((hf6 _).mono fun _ _ h => ⟨h.1, h.2.out⟩))) | (go_at_call 26; first | (with_reducible exact Calls.quiet_of ((hl4 _ (Sl.drewN SP1.out _)).mono fun _ _ h => ⟨h.1, h.2.out⟩)) | (with_reducible exact Calls.quiet_of ((hl5 _ (Sl.drewN SD1.out _)).mono fun _ _ h => ⟨h.1, h.2.out⟩)))))
            go_wp2
            go_ret
            unfold BoolIff
            exact ⟨false, rfl, by rw [HGP.out, HG1.out]; simp [good2, HK.out], below_drewN HF1.out _⟩
          | true =>
            by_cases hsz : (c.data.size : Int) ≤ 1024
            · have HSZ := Lib.hid hsz
              by_cases hdt : c.data = ⟨#[]⟩
              · have tb : c.data.toList.isEmpty = true := data_empty hdt
                have HDT := Lib.hid hdt
                clear hdt
                go_quiet ((first | (go_at_call 25; first | (with_reducible exact Calls.quiet_of ((hf4 _).mono fun _ _ h => ⟨h.1, h.2.out⟩)) | (with_reducible exact Calls.quiet_of ((hf5 _).mono fun _ _ h => ⟨h.1, h.2.out⟩)) | (with_reducible exact Calls.quiet_of ((hf6 _).mono fun _ _ h => ⟨h.1, h.2.out⟩))) | (go_at_call 26; first | (with_reducible exact Calls.quiet_of ((hl4 _ (Sl.drewN SP1.out _)).mono fun _ _ h => ⟨h.1, h.2.out⟩)) | (with_reducible exact Calls.quiet_of ((hl5 _ (Sl.drewN SD1.out _)).mono fun _ _ h => ⟨h.1, h.2.out⟩)))))
                go_wp2
                go_ret
                unfold BoolIff
                exact ⟨true, rfl, by rw [HGP.out, HG1.out]; simp [good2, HK.out, HDT.out]; try decide, below_drewN HF1.out _⟩
              · have tb : c.data.toList.isEmpty = false := data_full hdt
                have HDT := Lib.hid hdt
                clear hdt
                cases g6 with
                | false =>
                  go_quiet ((first | (go_at_call 25; first | (with_reducible exact Calls.quiet_of ((hf4 _).mono fun _ _ h => ⟨h.1, h.2.out⟩)) | (with_reducible exact Calls.quiet_of ((hf5 _).mono fun _ _ h => ⟨h.1, h.2.out⟩)) | (with_reducible exact Calls.quiet_of ((hf6 _).mono fun _ _ h => ⟨h.1, h.2.out⟩))) | (go_at_call 26; first | (with_reducible exact Calls.quiet_of ((hl4 _ (Sl.drewN SP1.out _)).mono fun _ _ h => ⟨h.1, h.2.out⟩)) | (with_reducible exact Calls.quiet_of ((hl5 _ (Sl.drewN SD1.out _)).mono fun _ _ h => ⟨h.1, h.2.out⟩)))))
                  go_wp2
                  go_ret
                  unfold BoolIff
                  exact ⟨false, rfl, by rw [HGP.out, HG1.out]; simp [good2, HK.out, HSZ.out, HDT.out], below_drewN HF1.out _⟩
                | true =>
                  go_quiet ((first | (go_at_call 25; first | (with_reducible exact Calls.quiet_of ((hf4 _).mono fun _ _ h => ⟨h.1, h.2.out⟩)) | (with_reducible exact Calls.quiet_of ((hf5 _).mono fun _ _ h => ⟨h.1, h.2.out⟩)) | (with_reducible exact Calls.quiet_of ((hf6 _).mono fun _ _ h => ⟨h.1, h.2.out⟩))) | (go_at_call 26; first | (with_reducible exact Calls.quiet_of ((hl4 _ (Sl.drewN SP1.out _)).mono fun _ _ h => ⟨h.1, h.2.out⟩)) | (with_reducible exact Calls.quiet_of ((hl5 _ (Sl.drewN SD1.out _)).mono fun _ _ h => ⟨h.1, h.2.out⟩)))))
                  go_wp2
                  go_ret
                  unfold BoolIff
                  exact ⟨true, rfl, by rw [HGP.out, HG1.out]; simp [good2, HK.out, HSZ.out, HDT.out], below_drewN HF1.out _⟩
            · have hsz2 : (1024 : Int) < c.data.size := by omega
              have hdec : decide ((c.data.size : Int) ≤ 1024) = false := decide_eq_false hsz
              have HSZ := Lib.hid hsz
              clear hsz
              go_quiet ((first | (go_at_call 25; first | (with_reducible exact Calls.quiet_of ((hf4 _).mono fun _ _ h => ⟨h.1, h.2.out⟩)) | (with_reducible exact Calls.quiet_of ((hf5 _).mono fun _ _ h => ⟨h.1, h.2.out⟩)) | (with_reducible exact Calls.quiet_of ((hf6 _).mono fun _ _ h => ⟨h.1, h.2.out⟩))) | (go_at_call 26; first | (with_reducible exact Calls.quiet_of ((hl4 _ (Sl.drewN SP1.out _)).mono fun _ _ h => ⟨h.1, h.2.out⟩)) | (with_reducible exact Calls.quiet_of ((hl5 _ (Sl.drewN SD1.out _)).mono fun _ _ h => ⟨h.1, h.2.out⟩)))))
              go_wp2
              go_ret
              unfold BoolIff
              exact ⟨false, rfl, by rw [HGP.out, HG1.out]; simp [good2, HK.out, HSZ.out]; intros; omega, below_drewN HF1.out _⟩
  · have hN := fun w => refname_calls c.kind w
    rw [nameB_empty c.kind (by omega)] at hN
    have HGP := Lib.hid (goodP_iff c)
    have HK := Lib.hid hk
    clear hk
    go_enter Try.func8, Try.ntmps8
    go_upto_region 1 with fail
    (try simp only [Act.put, List.setIfInBounds_toArray, List.set_cons_zero, List.set_cons_succ])
    generalize hW : w.alloc (.cells (c.vals (.slice pa c.pr.length pc) (.slice da c.dr.length dc)) 27) = W
    have hbW : Below w.heap.size w W := by rw [← hW]; exact (Below.refl _ w).alloc (Nat.le_refl _) _
    have hb : W.heap[w.heap.size]? = some (.cells (c.vals (.slice pa c.pr.length pc) (.slice da c.dr.length dc)) 27 (0, 0)) := by rw [← hW]; exact heap_alloc_new _ _
    clear hW
    obtain ⟨c0, c1, c2, c3, c4, c5, c6, _⟩ := cmd_cells hb
    have hlt : w.heap.size < W.heap.size := lt_of_block hb
    have HW := Lib.hid hbW
    clear hb hbW
    go_wp2_with (go_at_call 13; refine (hN _).mono ?_; rintro e w1 ⟨rfl, h1⟩; have H1 := Lib.hid h1; clear h1)
    go_ret
    unfold BoolIff
    exact ⟨false, rfl, by rw [HGP.out]; simp [HK.out], HW.out.trans (H1.out.mono (Nat.le_of_lt hlt))⟩
end Go.Proofs.Ytbedamkeeongfaa
