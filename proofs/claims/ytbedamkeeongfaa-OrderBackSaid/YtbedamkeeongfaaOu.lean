/- Contract of order.Trim. -/
import Derived.Test.YtbedamkeeongfaaOi
import Derived.Test.YtbedamkeeongfaaOt
import Derived.Test.YtbedamkeeongfaaRw
import Derived.Deep.Cut
namespace Go.Proofs.Ytbedamkeeongfaa
open Go.RowKit Go.Proofs.Ytbedamkeeongfaa.Mem
set_option linter.unusedVariables false

/-- a command without what its kind hasn't -/
def Cmd.trim (c : Cmd) : Cmd :=
  let k := fieldsOf c.kind
  if 1 ≤ c.kind ∧ c.kind ≤ 13 then ⟨c.kind, if 1 ∈ k then c.id else 0, if 2 ∈ k then c.n else 0, if 3 ∈ k then c.good else false, if 4 ∈ k then c.pr else [], if 5 ∈ k then c.dr else [], if 6 ∈ k then c.data else ⟨#[]⟩⟩ else Cmd.zero

theorem data_empty {x : ByteArray} (h : x = ⟨#[]⟩) : x.toList.isEmpty = true := by
  subst h
  decide +kernel
theorem data_full {x : ByteArray} (h : ¬ x = ⟨#[]⟩) : x.toList.isEmpty = false := by
  rw [Lib.toList_data]
  cases e : x.data.toList with
  | nil => exact absurd (oext e) h
  | cons a l => rfl

/-- the steps of Trim: the first field, the first two, .. -/
def T1 (c r : Cmd) : Cmd := { c with id := if r.id = 0 then c.id else 0 }
def T2 (c r : Cmd) : Cmd := { T1 c r with n := if r.n = 0 then c.n else 0 }
def T3 (c r : Cmd) : Cmd := { T2 c r with good := if r.good = false then c.good else false }
def T4 (c r : Cmd) : Cmd := { T3 c r with pr := if r.pr = [] then c.pr else [] }
def T5 (c r : Cmd) : Cmd := { T4 c r with dr := if r.dr = [] then c.dr else [] }
def T6 (c r : Cmd) : Cmd := { T5 c r with data := if r.data = ⟨#[]⟩ then c.data else ⟨#[]⟩ }

theorem trim_steps (c : Cmd) (hk : 1 ≤ c.kind ∧ c.kind ≤ 13) : T6 c c.rest = c.trim := by
  obtain ⟨kind, id, n, good, pr, dr, data⟩ := c
  simp only [Cmd.trim, if_pos hk, T6, T5, T4, T3, T2, T1, Cmd.rest, Cmd.mk.injEq, true_and]
  refine ⟨?_, ?_, ?_, ?_, ?_, ?_⟩
  · by_cases h : 1 ∈ fieldsOf kind <;> simp [h]
  · by_cases h : 2 ∈ fieldsOf kind <;> simp [h]
  · by_cases h : 3 ∈ fieldsOf kind <;> simp [h]
  · by_cases h : 4 ∈ fieldsOf kind <;> simp [h]
  · by_cases h : 5 ∈ fieldsOf kind <;> simp [h]
  · by_cases h : 6 ∈ fieldsOf kind <;> simp [h]

/-- what holds between the steps -/
structure TrimAt (w : World) (N m : Nat) (r : Cmd) (p2 d2 : Value) (c1 : Cmd) (p d : Value) (wx : World) : Prop where
  blk : wx.heap[N]? = some (.cells (c1.vals p d) 24 (0, 0))
  sp : wx.heap[m]? = some (.cells (r.vals p2 d2) 24 (0, 0))
  res : wx.heap[N + 1]? = some (.cells (Cmd.zero.vals (.slice none 0 0) (.slice none 0 0)) 24 (0, 0))
  lt : N + 1 < m
  pr : Sl wx (N + 2) wx.heap.size p c1.pr
  dr : Sl wx (N + 2) wx.heap.size d c1.dr
  pl : ∃ a c, p2 = .slice a r.pr.length c
  dl : ∃ a c, d2 = .slice a r.dr.length c
  bel : Below N w wx

theorem TrimAt.set {w : World} {N m : Nat} {r : Cmd} {p2 d2 : Value} {c1 : Cmd} {p d : Value} {wx : World} (h : TrimAt w N m r p2 d2 c1 p d wx) (f : Nat) (v : Value) (c2 : Cmd) (p' d' : Value)
    (hc : (c1.vals p d).setIfInBounds f v = c2.vals p' d') (hp : p' = p ∧ c2.pr = c1.pr ∨ p' = .slice none 0 0 ∧ c2.pr = []) (hd : d' = d ∧ c2.dr = c1.dr ∨ d' = .slice none 0 0 ∧ c2.dr = []) :
    TrimAt w N m r p2 d2 c2 p' d' (wx.setCell ⟨N, f, none⟩ v) := by
  have hm := h.lt
  have hsz : (wx.setCell ⟨N, f, none⟩ v).heap.size = wx.heap.size := by simp [World.setCell]
  have hk : ∀ k, N + 2 ≤ k → k < wx.heap.size → (wx.setCell ⟨N, f, none⟩ v).heap[k]? = wx.heap[k]? := fun k h1 _ => Below.heap_setCell _ _ _ _ (by simp; omega)
  refine ⟨by rw [← hc]; exact heap_set h.blk f v, (Below.heap_setCell _ _ _ _ (by simp; omega)).trans h.sp, (Below.heap_setCell _ _ _ _ (by simp)).trans h.res, hm, ?_, ?_, h.pl, h.dl, h.bel.setCell (p := ⟨N, f, none⟩) (Nat.le_refl _) _⟩
  · rcases hp with ⟨rfl, e⟩ | ⟨rfl, e⟩
    · rw [e]; exact h.pr.move (Nat.le_refl _) (Nat.le_of_eq hsz.symm) hk
    · rw [e]; exact Sl.nil _ _ _ _ _
  · rcases hd with ⟨rfl, e⟩ | ⟨rfl, e⟩
    · rw [e]; exact h.dr.move (Nat.le_refl _) (Nat.le_of_eq hsz.symm) hk
    · rw [e]; exact Sl.nil _ _ _ _ _

/-- what holds ahead of the copy and the rest -/
structure TJ (w : World) (A B N : Nat) (c : Cmd) (p d : Value) (V : World) : Prop where
  pr : Sl V A B p c.pr
  dr : Sl V A B d c.dr
  le : B ≤ V.heap.size
  lt : N + 2 ≤ V.heap.size
  blk : V.heap[N]? = some (.cells (c.vals p d) 24 (0, 0))
  res : V.heap[N + 1]? = some (.cells (Cmd.zero.vals (.slice none 0 0) (.slice none 0 0)) 24 (0, 0))
  bel : Below N w V
theorem TJ.below {w : World} {A B N : Nat} {c : Cmd} {p d : Value} {V V' : World} (h : TJ w A B N c p d V) (hb : Below V.heap.size V V') : TJ w A B N c p d V' := by
  have h1 := h.lt
  have h2 := hb.size
  exact ⟨h.pr.below (hb.mono h.le) (Nat.le_refl _) (Nat.le_refl _), h.dr.below (hb.mono h.le) (Nat.le_refl _) (Nat.le_refl _), Nat.le_trans h.le h2, Nat.le_trans h1 h2, (hb.block _ (by omega)).trans h.blk, (hb.block _ (by omega)).trans h.res, h.bel.trans (hb.mono (by omega))⟩
theorem TJ.alloc {w : World} {A B N : Nat} {c : Cmd} {p d : Value} {V : World} (h : TJ w A B N c p d V) (o : Obj) : TJ w A B N c p d (V.alloc o) := h.below ((Below.refl _ V).alloc (Nat.le_refl _) o)
theorem TJ.drew {w : World} {A B N : Nat} {c : Cmd} {p d : Value} {V : World} (h : TJ w A B N c p d V) : TJ w A B N c p d V.drew := h.below (Below.refl _ V).drew
theorem copy_tj {w : World} {A B N : Nat} {c : Cmd} {p d : Value} {V : World} (h : TJ w A B N c p d V) :
    Calls Try.prog 10 #[.agg #[.int .i64 c.kind, .int .i64 c.id, .int .i64 c.n, .bool c.good, p, d, .string c.data]] V fun e w' => ∃ p' d', e = .returned (.agg (c.vals p' d')) ∧ Sl w' V.heap.size w'.heap.size p' c.pr ∧ Sl w' V.heap.size w'.heap.size d' c.dr ∧ TJ w A B N c p d w' ∧ V.heap.size ≤ w'.heap.size ∧ (∀ k, k < V.heap.size → w'.heap[k]? = V.heap[k]?) :=
  (copy_calls c p d A B V h.pr h.dr h.le).mono fun e w' ⟨p', d', h1, h2, h3, h4⟩ => ⟨p', d', h1, h2, h3, h.below h4, h4.size, h4.block⟩
theorem rest_tj {w : World} {A B N : Nat} {c r : Cmd} {p d : Value} {V : World} (h : TJ w A B N c p d V) (hr : c.rest = r) :
    Calls Try.prog 31 #[.agg #[.int .i64 c.kind, .int .i64 c.id, .int .i64 c.n, .bool c.good, p, d, .string c.data]] V fun e w' => ∃ p2 d2, e = .returned (.agg (r.vals p2 d2)) ∧ (∃ a k, p2 = .slice a r.pr.length k) ∧ (∃ a k, d2 = .slice a r.dr.length k) ∧ TJ w A B N c p d w' ∧ V.heap.size ≤ w'.heap.size ∧ (∀ k, k < V.heap.size → w'.heap[k]? = V.heap[k]?) :=
  (rest_named c p d A B V h.pr h.dr h.le).mono fun e w' ⟨p', d', h1, h2, h3, h4⟩ => ⟨p', d', by rw [h1, hr], by rw [← hr]; exact h2.slice, by rw [← hr]; exact h3.slice, h.below h4, h4.size, h4.block⟩

theorem trim_start {w : World} {A B N m : Nat} {c r : Cmd} {p d p2 d2 p' d' : Value} {V : World} (hJ : TJ w A B N c p d V) (hm : V.heap[m]? = some (.cells (Cmd.zero.vals (.slice none 0 0) (.slice none 0 0)) 24 (0, 0))) (hlt : N + 1 < m)
    (lo hi : Nat) (hp : Sl V lo hi p' c.pr) (hd : Sl V lo hi d' c.dr) (hlo : N + 2 ≤ lo) (hhi : hi ≤ V.heap.size) (hml : m < lo ∨ hi ≤ m) (h2 : ∃ a k, p2 = .slice a r.pr.length k) (h3 : ∃ a k, d2 = .slice a r.dr.length k) :
    TrimAt w N m r p2 d2 c p' d' ((V.setRow N (c.vals p' d')).setRow m (r.vals p2 d2)) := by
  have hk : ∀ k, lo ≤ k → k < hi → ((V.setRow N (c.vals p' d')).setRow m (r.vals p2 d2)).heap[k]? = V.heap[k]? := fun k h1 h2 => by
    rw [setRow_other _ _ _ _ (by omega), setRow_other _ _ _ _ (by omega)]
  have hmN : (V.setRow N (c.vals p' d')).heap[m]? = some (.cells (Cmd.zero.vals (.slice none 0 0) (.slice none 0 0)) 24 (0, 0)) := (setRow_other _ _ _ _ (by omega)).trans hm
  refine ⟨?_, setRow_heap _ _ _ _ _ _ hmN, ?_, hlt, hp.move hlo ?_ hk, hd.move hlo ?_ hk, h2, h3, below_row (below_row hJ.bel (Nat.le_refl _) _) (by omega) _⟩
  · rw [setRow_other _ _ _ _ (by omega)]
    exact setRow_heap _ _ _ _ _ _ hJ.blk
  · rw [setRow_other _ _ _ _ (by omega), setRow_other _ _ _ _ (by omega)]
    exact hJ.res
  · rw [setRow_size, setRow_size]; exact hhi
  · rw [setRow_size, setRow_size]; exact hhi

set_option maxRecDepth 100000 in
set_option maxHeartbeats 4000000 in
theorem trim_calls (c : Cmd) (p d : Value) (A B : Nat) (w : World) (hp : Sl w A B p c.pr) (hd : Sl w A B d c.dr) (hB : B ≤ w.heap.size) :
    Calls Try.prog 17 #[.agg (c.vals p d)] w fun e w' => ∃ p' d', e = .returned (.agg (c.trim.vals p' d')) ∧ Sl w' w.heap.size w'.heap.size p' c.trim.pr ∧ Sl w' w.heap.size w'.heap.size d' c.trim.dr ∧ Below w.heap.size w w' := by
  obtain ⟨pa, pc, rfl⟩ := hp.slice
  obtain ⟨da, dc, rfl⟩ := hd.slice
  have HP := Lib.hid hp
  have HD := Lib.hid hd
  clear hp hd
  have hn := fun w => name_calls c.kind w
  by_cases hk : 1 ≤ c.kind ∧ c.kind ≤ 13
  · obtain ⟨nb, hnb⟩ : ∃ nb, nameB c.kind = nb := ⟨_, rfl⟩
    have hne := nameB_full c.kind hk
    rw [hnb] at hne hn
    have hne2 : nb.toList.isEmpty = false := by simpa using hne
    have htr := trim_steps c hk
    have HTR := Lib.hid htr
    clear hne hnb htr hk
    go_enter Try.func17, Try.ntmps17
    go_upto_region 1 with fail
    (try simp only [Act.put, List.setIfInBounds_toArray, List.set_cons_zero, List.set_cons_succ])
    generalize hW : (w.alloc (.cells (c.vals (.slice pa c.pr.length pc) (.slice da c.dr.length dc)) 24)).alloc (.cells #[.int .i64 0, .int .i64 0, .int .i64 0, .bool false, .slice none 0 0, .slice none 0 0, .string ⟨#[]⟩] 24) = W
    have hJ : TJ w A B w.heap.size c (.slice pa c.pr.length pc) (.slice da c.dr.length dc) W := by
      have hb : Below w.heap.size w W := by rw [← hW]; exact ((Below.refl _ w).alloc (Nat.le_refl _) _).alloc (by simp) _
      have hs : W.heap.size = w.heap.size + 2 := by rw [← hW]; simp
      exact ⟨HP.out.below (hb.mono hB) (Nat.le_refl _) (Nat.le_refl _), HD.out.below (hb.mono hB) (Nat.le_refl _) (Nat.le_refl _), by omega, by omega, by rw [← hW]; exact heap_two _ _ _, by rw [← hW]; exact heap_alloc_new2 _ _ _, hb⟩
    clear hW
    obtain ⟨N, hN⟩ : ∃ N, w.heap.size = N := ⟨_, rfl⟩
    rw [hN] at hJ ⊢
    have HNN := Lib.hid hN
    have HJ := Lib.hid hJ
    obtain ⟨c0, c1, c2, c3, c4, c5, c6, cf⟩ := cmd_cells hJ.blk
    clear cf hJ hN
    go_upto_region 3 with (go_at_call 12; refine (hn _).mono ?_; rintro e w1 ⟨rfl, h1⟩; have HJ1 := Lib.hid (HJ.out.below h1); clear h1)
    obtain ⟨d0, d1, d2, d3, d4, d5, d6, df⟩ := cmd_cells (w := w1.drew) HJ1.out.blk
    have hlt := HJ1.out.lt
    clear c0 c1 c2 c3 c4 c5 c6 df
    have HJ2 := Lib.hid HJ1.out.drew
    obtain ⟨r, hr⟩ : ∃ r, c.rest = r := ⟨_, rfl⟩
    rw [hr] at HTR
    have HR := Lib.hid hr
    clear hr
    go_cut [3] from 4 (fun s3 wx => ∃ m p' d' p2 d2, s3 = .pointer (some ⟨m, 0, none⟩) ∧ TrimAt w N m r p2 d2 c p' d' wx)
    case first =>
      have hN1 : N + 1 < w1.heap.size := by have := HJ1.out.lt; omega
      have hN0 : N < w1.heap.size := by omega
      obtain ⟨b0, b1, b2, b3, b4, b5, b6, _⟩ := cmd_cells (w := w1) HJ1.out.blk
      go_region_with (first | (go_at_call 10; refine (copy_tj (by first | exact HJ2.out | exact HJ2.out.alloc _)).mono ?_; rintro e w2 ⟨p', d', rfl, h2, h3, h4, h5, h6⟩; obtain ⟨pa', pc', rfl⟩ := h2.slice; obtain ⟨da', dc', rfl⟩ := h3.slice; have H2 := Lib.hid h2; have H3 := Lib.hid h3; have H4 := Lib.hid h4; have hn2 : N < w2.heap.size := (by have := h4.lt; omega); have hb2 := h4.blk; obtain ⟨e0, e1, e2, e3, e4, e5, e6, _⟩ := cmd_cells hb2; (first | (have hm2 : w2.heap[w1.heap.size]? = some (.cells (Cmd.zero.vals (.slice none 0 0) (.slice none 0 0)) 24 (0, 0)) := (h6 _ (by simp)).trans (heap_alloc_new w1.drew _); have M2 := Lib.hid hm2; clear hm2) | skip); have H5 := Lib.hid h5; clear h2 h3 h4 h5 h6 hb2) | (go_at_call 31; refine (rest_tj (by first | exact H4.out | exact H4.out.alloc _) HR.out).mono ?_; rintro e w3 ⟨p2, d2, rfl, ⟨qa, qc, rfl⟩, ⟨ra, rc, rfl⟩, h7, h8, h9⟩; (first | (have hb9 : w2.heap.size < w3.heap.size := (by simp at h8; omega); have B9 := Lib.hid hb9; clear hb9) | skip); have H7 := Lib.hid h7; have H8 := Lib.hid h8; have H9 := Lib.hid h9; clear h7 h8 h9) | (refine upon_storeRow (old := c.vals (.slice pa c.pr.length pc) (.slice da c.dr.length dc)) (t := 24) ?_ rfl rfl ?_; first | exact H7.out.blk | exact (H7.out.alloc _).blk) | (refine upon_storeRow (old := Cmd.zero.vals (.slice none 0 0) (.slice none 0 0)) (t := 24) ?_ rfl rfl ?_; first | exact (setRow_other _ _ _ _ (by have := H7.out.lt; simp; omega)).trans (heap_alloc_new w3 _) | exact (setRow_other _ _ _ _ (by have := H4.out.lt; simp; omega)).trans ((H9.out _ (by simp)).trans (heap_alloc_new w2 _)) | exact (setRow_other _ _ _ _ (by simp; omega)).trans ((H9.out _ (by have := H5.out; simp at this; omega)).trans M2.out)))
      all_goals
        go_wp2_with fail
        go_meet
        case rel =>
          first
          | (have _t := M2; exact ⟨w1.heap.size, _, _, _, _, rfl, trim_start H7.out ((H9.out _ (by have := H5.out; simp at this; omega)).trans M2.out) (by omega) _ _ (H2.out.move (Nat.le_refl _) (Nat.le_refl _) (fun k h1 h2 => H9.out k h2)) (H3.out.move (Nat.le_refl _) (Nat.le_refl _) (fun k h1 h2 => H9.out k h2)) (by simp; omega) H8.out (.inl (by simp)) ⟨_, _, rfl⟩ ⟨_, _, rfl⟩⟩)
          | (have _t := B9; exact ⟨w2.heap.size, _, _, _, _, rfl, trim_start H7.out ((H9.out _ (by simp)).trans (heap_alloc_new w2 _)) (by have := H4.out.lt; omega) _ _ (H2.out.move (Nat.le_refl _) (Nat.le_refl _) (fun k h1 h2 => (H9.out k (by simp; omega)).trans (Below.heap_alloc _ _ _ h2))) (H3.out.move (Nat.le_refl _) (Nat.le_refl _) (fun k h1 h2 => (H9.out k (by simp; omega)).trans (Below.heap_alloc _ _ _ h2))) HJ2.out.lt (by have := H8.out; simp at this; omega) (.inr (Nat.le_refl _)) ⟨_, _, rfl⟩ ⟨_, _, rfl⟩⟩)
          | exact ⟨w3.heap.size, _, _, _, _, rfl, trim_start (H7.out.alloc _) (heap_alloc_new _ _) (by have := H7.out.lt; omega) _ _ (H2.out.move (Nat.le_refl _) (Nat.le_refl _) (fun k h1 h2 => (Below.heap_alloc _ _ _ (Nat.lt_of_lt_of_le h2 H8.out)).trans (H9.out k h2))) (H3.out.move (Nat.le_refl _) (Nat.le_refl _) (fun k h1 h2 => (Below.heap_alloc _ _ _ (Nat.lt_of_lt_of_le h2 H8.out)).trans (H9.out k h2))) HJ2.out.lt (by have := H8.out; simp; omega) (.inr H8.out) ⟨_, _, rfl⟩ ⟨_, _, rfl⟩⟩
    case rest =>
      obtain ⟨m, pw, dw, p2, d2, rfl, hT⟩ := hcut
      obtain ⟨pq, pq', rfl⟩ := hT.pl
      obtain ⟨dq, dq', rfl⟩ := hT.dl
      clear hlt
      have k0 := (cmd_cells hT.sp).2.1
      have k1 := (cmd_cells hT.blk).2.1
      have k2 := (cmd_cells hT.blk).2.2.2.2.2.2.2 1
      have HT := Lib.hid hT
      clear hT
      go_upto_if 15 with fail
      go_cut [] from 4 (fun wx => TrimAt w N m r (.slice pq r.pr.length pq') (.slice dq r.dr.length dq') (T1 c r) pw dw wx)
      case first =>
        by_cases hc : r.id = 0
        · have hb : (r.id != 0) = false := by simp [hc]
          have HC := Lib.hid hc
          clear hc
          go_wp2_with fail
          go_meet
          case rel =>
            have e : T1 c r = c := by simp [T1, HC.out]
            rw [e]
            exact HT.out
        · have hb : (r.id != 0) = true := by simp [hc]
          have HC := Lib.hid hc
          clear hc
          go_wp2_with fail
          go_meet
          case rel =>
            exact HT.out.set 1 (.int .i64 0) (T1 c r) pw dw (by simp [T1, HC.out, Cmd.vals]) (.inl ⟨rfl, rfl⟩) (.inl ⟨rfl, rfl⟩)
      case rest =>
        have hT := hcut
        clear hcut
        clear k0 k1 k2 HT
        have k0 := (cmd_cells hT.sp).2.2.1
        have k1 := (cmd_cells hT.blk).2.2.1
        have k2 := (cmd_cells hT.blk).2.2.2.2.2.2.2 2
        have HT := Lib.hid hT
        clear hT
        go_upto_if 19 with fail
        go_cut [] from 4 (fun wx => TrimAt w N m r (.slice pq r.pr.length pq') (.slice dq r.dr.length dq') (T2 c r) pw dw wx)
        case first =>
          by_cases hc : r.n = 0
          · have hb : (r.n != 0) = false := by simp [hc]
            have HC := Lib.hid hc
            clear hc
            go_wp2_with fail
            go_meet
            case rel =>
              have e : T2 c r = T1 c r := by simp [T2, T1, HC.out]
              rw [e]
              exact HT.out
          · have hb : (r.n != 0) = true := by simp [hc]
            have HC := Lib.hid hc
            clear hc
            go_wp2_with fail
            go_meet
            case rel =>
              exact HT.out.set 2 (.int .i64 0) (T2 c r) pw dw (by simp [T2, T1, HC.out, Cmd.vals]) (.inl ⟨rfl, rfl⟩) (.inl ⟨rfl, rfl⟩)
        case rest =>
          have hT := hcut
          clear hcut
          clear k0 k1 k2 HT
          have k0 := (cmd_cells hT.sp).2.2.2.1
          have k1 := (cmd_cells hT.blk).2.2.2.1
          have k2 := (cmd_cells hT.blk).2.2.2.2.2.2.2 3
          have HT := Lib.hid hT
          clear hT
          go_upto_if 22 with fail
          go_cut [] from 4 (fun wx => TrimAt w N m r (.slice pq r.pr.length pq') (.slice dq r.dr.length dq') (T3 c r) pw dw wx)
          case first =>
            by_cases hc : r.good = false
            · have hb : r.good = false := hc
              have HC := Lib.hid hc
              clear hc
              simp only [hb]
              go_wp2_with fail
              go_meet
              case rel =>
                have e : T3 c r = T2 c r := by simp [T3, T2, T1, HC.out]
                rw [e]
                exact HT.out
            · have hb : r.good = true := by simpa using hc
              have HC := Lib.hid hc
              clear hc
              simp only [hb]
              go_wp2_with fail
              go_meet
              case rel =>
                exact HT.out.set 3 (.bool false) (T3 c r) pw dw (by simp [T3, T2, T1, HC.out, Cmd.vals]) (.inl ⟨rfl, rfl⟩) (.inl ⟨rfl, rfl⟩)
          case rest =>
            have hT := hcut
            clear hcut
            clear k0 k1 k2 HT
            have k0 := (cmd_cells hT.sp).2.2.2.2.1
            have k1 := (cmd_cells hT.blk).2.2.2.2.1
            have k2 := (cmd_cells hT.blk).2.2.2.2.2.2.2 4
            have HT := Lib.hid hT
            clear hT
            go_upto_if 27 with fail
            go_cut [] from 4 (fun wx => ∃ pn, TrimAt w N m r (.slice pq r.pr.length pq') (.slice dq r.dr.length dq') (T4 c r) pn dw wx)
            case first =>
              by_cases hc : r.pr = []
              · have hb : (r.pr.length : Int) ≤ 0 := by simp [hc]
                have HC := Lib.hid hc
                clear hc
                go_wp2_with fail
                go_meet
                case rel =>
                  have e : T4 c r = T3 c r := by simp [T4, T3, T2, T1, HC.out]
                  rw [e]
                  exact ⟨_, HT.out⟩
              · have hb : (0 : Int) < r.pr.length := by have := List.length_pos_iff.2 hc; omega
                have HC := Lib.hid hc
                clear hc
                go_wp2_with fail
                go_meet
                case rel =>
                  exact ⟨_, HT.out.set 4 (.slice none 0 0) (T4 c r) (.slice none 0 0) dw (by simp [T4, T3, T2, T1, HC.out, Cmd.vals]) (.inr ⟨rfl, by simp [T4, T3, T2, T1, HC.out]⟩) (.inl ⟨rfl, rfl⟩)⟩
            case rest =>
              obtain ⟨pw, hT⟩ := hcut
              clear k0 k1 k2 HT
              have k0 := (cmd_cells hT.sp).2.2.2.2.2.1
              have k1 := (cmd_cells hT.blk).2.2.2.2.2.1
              have k2 := (cmd_cells hT.blk).2.2.2.2.2.2.2 5
              have HT := Lib.hid hT
              clear hT
              go_upto_if 32 with fail
              go_cut [] from 4 (fun wx => ∃ dn, TrimAt w N m r (.slice pq r.pr.length pq') (.slice dq r.dr.length dq') (T5 c r) pw dn wx)
              case first =>
                by_cases hc : r.dr = []
                · have hb : (r.dr.length : Int) ≤ 0 := by simp [hc]
                  have HC := Lib.hid hc
                  clear hc
                  go_wp2_with fail
                  go_meet
                  case rel =>
                    have e : T5 c r = T4 c r := by simp [T5, T4, T3, T2, T1, HC.out]
                    rw [e]
                    exact ⟨_, HT.out⟩
                · have hb : (0 : Int) < r.dr.length := by have := List.length_pos_iff.2 hc; omega
                  have HC := Lib.hid hc
                  clear hc
                  go_wp2_with fail
                  go_meet
                  case rel =>
                    exact ⟨_, HT.out.set 5 (.slice none 0 0) (T5 c r) pw (.slice none 0 0) (by simp [T5, T4, T3, T2, T1, HC.out, Cmd.vals]) (.inl ⟨rfl, rfl⟩) (.inr ⟨rfl, by simp [T5, T4, T3, T2, T1, HC.out]⟩)⟩
              case rest =>
                obtain ⟨dw, hT⟩ := hcut
                clear k0 k1 k2 HT
                have k0 := (cmd_cells hT.sp).2.2.2.2.2.2.1
                have k1 := (cmd_cells hT.blk).2.2.2.2.2.2.1
                have k2 := (cmd_cells hT.blk).2.2.2.2.2.2.2 6
                have HT := Lib.hid hT
                clear hT
                go_upto_if 36 with fail
                go_cut [] from 4 (fun wx => TrimAt w N m r (.slice pq r.pr.length pq') (.slice dq r.dr.length dq') (T6 c r) pw dw wx)
                case first =>
                  by_cases hc : r.data = ⟨#[]⟩
                  · have hb : r.data.toList.isEmpty = true := data_empty hc
                    have HC := Lib.hid hc
                    clear hc
                    simp only [hb, Bool.not_true]
                    go_wp2_with fail
                    go_meet
                    case rel =>
                      have e : T6 c r = T5 c r := by simp [T6, T5, T4, T3, T2, T1, HC.out]
                      rw [e]
                      exact HT.out
                  · have hb : r.data.toList.isEmpty = false := data_full hc
                    have HC := Lib.hid hc
                    clear hc
                    simp only [hb, Bool.not_false]
                    go_wp2_with fail
                    go_meet
                    case rel =>
                      exact HT.out.set 6 (.string ⟨#[]⟩) (T6 c r) pw dw (by simp [T6, T5, T4, T3, T2, T1, HC.out, Cmd.vals]) (.inl ⟨rfl, rfl⟩) (.inl ⟨rfl, rfl⟩)
                case rest =>
                  have hT := hcut
                  clear hcut
                  clear k0 k1 k2 HT
                  obtain ⟨pa6, pc6, rfl⟩ := hT.pr.slice
                  obtain ⟨da6, dc6, rfl⟩ := hT.dr.slice
                  have htr := HTR.out
                  generalize T6 c r = c6 at *
                  obtain ⟨k0, k1, k2, k3, k4, k5, k6, _⟩ := cmd_cells hT.blk
                  obtain ⟨y0, y1, y2, y3, y4, y5, y6, yf⟩ := cmd_cells hT.res
                  have f0 := yf 0
                  have f1 := yf 1
                  have f2 := yf 2
                  have f3 := yf 3
                  have f4 := yf 4
                  have f5 := yf 5
                  have f6 := yf 6
                  have HT := Lib.hid hT
                  have HE := Lib.hid htr
                  clear hT htr yf
                  go_wp2
                  refine bodyPost_ret (results_cell_row rfl _ _ (N + 1) 24 (c6.vals (.slice pa6 c6.pr.length pc6) (.slice da6 c6.dr.length dc6)) (0, 0) _ rfl (put7_heap HT.out.res c6 (.slice pa6 c6.pr.length pc6) (.slice da6 c6.dr.length dc6)) Try.underlying24 rfl (by kernel_rfl)) rfl ?_
                  rw [← HE.out]
                  have hN := HNN.out
                  subst hN
                  have hmv : ∀ k, w.heap.size + 2 ≤ k → k < wc.heap.size → (put7 wc (w.heap.size + 1) c6 (.slice pa6 c6.pr.length pc6) (.slice da6 c6.dr.length dc6)).heap[k]? = wc.heap[k]? := fun k h1 h2 => put7_other _ _ _ _ _ _ (by omega)
                  have hsz : wc.heap.size ≤ (put7 wc (w.heap.size + 1) c6 (.slice pa6 c6.pr.length pc6) (.slice da6 c6.dr.length dc6)).heap.size := by rw [put7_size]; exact Nat.le_refl _
                  exact ⟨_, _, rfl, HT.out.pr.move (by omega) hsz hmv, HT.out.dr.move (by omega) hsz hmv, put7_below HT.out.bel _ (by omega) c6 _ _⟩
  · rw [nameB_empty _ (by omega)] at hn
    have HK := Lib.hid hk
    clear hk
    go_enter Try.func17, Try.ntmps17
    go_upto_region 1 with fail
    (try simp only [Act.put, List.setIfInBounds_toArray, List.set_cons_zero, List.set_cons_succ])
    generalize hW : (w.alloc (.cells (c.vals (.slice pa c.pr.length pc) (.slice da c.dr.length dc)) 24)).alloc (.cells #[.int .i64 0, .int .i64 0, .int .i64 0, .bool false, .slice none 0 0, .slice none 0 0, .string ⟨#[]⟩] 24) = W
    have hJ : TJ w A B w.heap.size c (.slice pa c.pr.length pc) (.slice da c.dr.length dc) W := by
      have hb : Below w.heap.size w W := by rw [← hW]; exact ((Below.refl _ w).alloc (Nat.le_refl _) _).alloc (by simp) _
      have hs : W.heap.size = w.heap.size + 2 := by rw [← hW]; simp
      exact ⟨HP.out.below (hb.mono hB) (Nat.le_refl _) (Nat.le_refl _), HD.out.below (hb.mono hB) (Nat.le_refl _) (Nat.le_refl _), by omega, by omega, by rw [← hW]; exact heap_two _ _ _, by rw [← hW]; exact heap_alloc_new2 _ _ _, hb⟩
    clear hW
    obtain ⟨N, hN⟩ : ∃ N, w.heap.size = N := ⟨_, rfl⟩
    rw [hN] at hJ ⊢
    have HNN := Lib.hid hN
    have HJ := Lib.hid hJ
    obtain ⟨c0, c1, c2, c3, c4, c5, c6, cf⟩ := cmd_cells hJ.blk
    clear cf hJ hN
    go_wp2_with (go_at_call 12; refine (hn _).mono ?_; rintro e w1 ⟨rfl, h1⟩; have hJ1 := HJ.out.below h1; obtain ⟨y0, y1, y2, y3, y4, y5, y6, yf⟩ := cmd_cells hJ1.res; have f0 := yf 0; have f1 := yf 1; have f2 := yf 2; have f3 := yf 3; have f4 := yf 4; have f5 := yf 5; have f6 := yf 6; have HJ1 := Lib.hid hJ1; clear h1 hJ1 yf)
    refine bodyPost_ret (results_cell_row rfl _ _ (N + 1) 24 (Cmd.zero.vals (.slice none 0 0) (.slice none 0 0)) (0, 0) _ rfl (put7_heap HJ1.out.res Cmd.zero (.slice none 0 0) (.slice none 0 0)) Try.underlying24 rfl (by kernel_rfl)) rfl ?_
    have ez : c.trim = Cmd.zero := by unfold Cmd.trim; rw [if_neg HK.out]
    rw [ez]
    have hN := HNN.out
    subst hN
    exact ⟨_, _, rfl, Sl.nil _ _ _ _ _, Sl.nil _ _ _ _ _, put7_below HJ1.out.bel _ (by omega) Cmd.zero _ _⟩
end Go.Proofs.Ytbedamkeeongfaa
