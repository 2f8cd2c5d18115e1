/- Contract of order.Bytes. -/
import Derived.Test.YtbedamkeeongfaaOj
import Derived.Deep.Cut
namespace Go.Proofs.Ytbedamkeeongfaa
open Go.RowKit Go.Proofs.Ytbedamkeeongfaa.Mem
set_option linter.unusedVariables false

theorem good_lit (c : Cmd) (p d : Value) (A B : Nat) (w : World) (hp : Sl w A B p c.pr) (hd : Sl w A B d c.dr) (hB : B ≤ w.heap.size) :
    Calls Try.prog 11 #[.agg #[.int .i64 c.kind, .int .i64 c.id, .int .i64 c.n, .bool c.good, p, d, .string c.data]] w fun e w' => ∃ r, e = .returned (.bool r) ∧ (r = true ↔ goodP c) ∧ Below w.heap.size w w' := good_calls c p d A B w hp hd hB

theorem kind_cells (k : Int) (x : Int) (h : IntKind.u8.wrap k = x) : Lib.byteCells [UInt8.ofNat (k % 256).toNat] = [.int .u8 x] := by
  have h0 : 0 ≤ k % 256 ∧ k % 256 < 256 := by omega
  have hw : IntKind.u8.wrap k = k % 256 := by simp [IntKind.wrap, IntKind.bits, IntKind.signed]
  have : ((UInt8.ofNat (k % 256).toNat).toNat : Int) = x := by
    rw [← h, UInt8.toNat_ofNat', Nat.mod_eq_of_lt (by omega), hw]
    omega
  show [Value.int .u8 ((UInt8.ofNat (k % 256).toNat).toNat : Int)] = _
  rw [this]
theorem one_cell (W : World) (v : Value) (t : Nat) : ∀ j u, [v][j]? = some u → (W.alloc (.cells #[v] t)).cell? ⟨W.heap.size, 0 + j, none⟩ = some u := by
  intro j u hj
  match j, hj with
  | 0, hj =>
    simp at hj
    subst hj
    exact World.cell?_alloc_at _ _ _ _ rfl

theorem penByte1 (T B b : Nat) (hT : PenT T) (hTe : T ≠ 5) (bad : Bool) (l : List UInt8) (u : UInt8) (x : Int) (hx : Lib.byteCells [u] = [.int .u8 x]) (V : World) (h : PenAt T B b bad l V) (hlen : (l.length : Int) ≤ 900000) (hB : B ≤ V.heap.size) :
    Calls Try.prog 27 #[.pointer (some ⟨b, 0, none⟩), .slice (some ⟨V.heap.size, 0, none⟩) 1 1] (V.alloc (.cells #[.int .u8 x] 5)) fun e w' => e = .returned (.tuple #[]) ∧ PenAt T B b bad (l ++ [u]) w' ∧ Below B V w' := by
  have hb := h.lt
  refine (penByte T B b hT hTe bad l [u] V.heap.size 0 1 _ (PenAt.alloc h _) (by simp; omega) (by simp; omega) (by rw [hx]; exact one_cell V _ _) (by omega)).mono ?_
  rintro e w' ⟨rfl, h1, h2⟩
  exact ⟨rfl, h1, ((Below.refl B V).alloc hB _).trans h2⟩

set_option maxRecDepth 100000 in
set_option maxHeartbeats 1000000 in
theorem bytes_calls (c : Cmd) (p d : Value) (A B : Nat) (w : World) (hp : Sl w A B p c.pr) (hd : Sl w A B d c.dr) (hB : B ≤ w.heap.size) :
    Calls Try.prog 9 #[.agg (c.vals p d)] w fun e w' => ∃ s k, e = .returned (.tuple #[.string s, .int .i64 k]) ∧ (goodP c → s = ⟨(enc c).toArray⟩ ∧ k = 0) ∧ (¬ goodP c → s = ⟨#[]⟩ ∧ k = 1) ∧ Below w.heap.size w w' := by
  obtain ⟨pa, pc, rfl⟩ := hp.slice
  obtain ⟨da, dc, rfl⟩ := hd.slice
  have HP := Lib.hid hp
  have HD := Lib.hid hd
  clear hp hd
  obtain ⟨kz, hkz⟩ : ∃ kz, IntKind.u8.wrap c.kind = kz := ⟨_, rfl⟩
  have HKZ := Lib.hid hkz
  go_enter Try.func9, Try.ntmps9
  go_upto_region 1 with fail
  (try simp only [Act.put, List.setIfInBounds_toArray, List.set_cons_zero, List.set_cons_succ])
  generalize hW : w.alloc (.cells (c.vals (.slice pa c.pr.length pc) (.slice da c.dr.length dc)) 24) = W
  have hbW : Below w.heap.size w W := by rw [← hW]; exact (Below.refl _ w).alloc (Nat.le_refl _) _
  have hb : W.heap[w.heap.size]? = some (.cells (c.vals (.slice pa c.pr.length pc) (.slice da c.dr.length dc)) 24 (0, 0)) := by rw [← hW]; exact heap_alloc_new _ _
  obtain ⟨c0, c1, c2, c3, c4, c5, c6, cf⟩ := cmd_cells hb
  have HB := Lib.hid hb
  have HW := Lib.hid hbW
  have wl : w.heap.size < W.heap.size := lt_of_block hb
  have SP := Lib.hid (Sl.below (A' := A) (B' := B) HP.out (hbW.mono hB) (Nat.le_refl _) (Nat.le_refl _))
  have SD := Lib.hid (Sl.below (A' := A) (B' := B) HD.out (hbW.mono hB) (Nat.le_refl _) (Nat.le_refl _))
  have hBW : B ≤ W.heap.size := by omega
  clear hb hbW cf hW
  go_wp2_with (go_at_call 11; refine (good_lit c _ _ A B _ SP.out SD.out hBW).mono ?_)
  rintro e w1 ⟨r, rfl, hr, h1⟩
  have HR := Lib.hid hr
  clear hr
  have hs1 := h1.size
  have hb1 := (h1.block w.heap.size wl).trans HB.out
  have SP1 := Lib.hid (Sl.below (A' := A) (B' := B) SP.out (h1.mono hBW) (Nat.le_refl _) (Nat.le_refl _))
  have SD1 := Lib.hid (Sl.below (A' := A) (B' := B) SD.out (h1.mono hBW) (Nat.le_refl _) (Nat.le_refl _))
  have HF1 := Lib.hid (HW.out.trans (h1.mono (Nat.le_of_lt wl)))
  have wl1 : w.heap.size < w1.heap.size := lt_of_block hb1
  have HB1 := Lib.hid hb1
  clear c0 c1 c2 c3 c4 c5 c6 hb1 h1
  cases r with
  | false =>
    go_wp2
    go_ret2
    exact ⟨_, _, rfl, fun h => absurd (HR.out.2 h) (by simp), fun _ => ⟨rfl, rfl⟩, HF1.out⟩
  | true =>
    have hg := HR.out.1 rfl
    have HG := Lib.hid hg
    clear hg
    go_upto_region 4 with fail
    (try simp only [Act.put, List.setIfInBounds_toArray, List.set_cons_zero, List.set_cons_succ])
    have hpn := PenAt.fresh 57 w1
    have hV := (Below.refl w1.heap.size w1).alloc (Nat.le_refl _) (.cells #[.pointer none, .slice none 0 0, .bool false] 57)
    have hVs : (w1.alloc (.cells #[.pointer none, .slice none 0 0, .bool false] 57)).heap.size = w1.heap.size + 1 := by simp
    generalize w1.alloc (.cells #[.pointer none, .slice none 0 0, .bool false] 57) = V at hpn hV hVs ⊢
    have hbV := (hV.block w.heap.size wl1).trans HB1.out
    obtain ⟨c0, c1, c2, c3, c4, c5, c6, cf⟩ := cmd_cells hbV
    have hkc := kind_cells c.kind kz HKZ.out
    have HKC := Lib.hid hkc
    have HPN := Lib.hid hpn
    have HV := Lib.hid hV
    have HBV := Lib.hid hbV
    have hTe : 57 ≠ 5 := by decide
    have hBw1 : B ≤ w1.heap.size := Nat.le_trans hBW hs1
    have hVle : w1.heap.size ≤ V.heap.size := by omega
    have h09 : (([] : List UInt8).length : Int) ≤ 900000 := by simp
    have hby := penByte1 57 w1.heap.size w1.heap.size writer_penT hTe false [] (UInt8.ofNat (c.kind % 256).toNat) kz hkc V hpn h09 hVle
    have HBY := Lib.hid hby
    clear hkc hpn hV hbV cf hby h09 hVs
    go_upto_region 5 with (go_at_call 27; refine HBY.out.mono ?_; rintro e w2 ⟨rfl, h3, h4⟩; have H3 := Lib.hid h3; have H4 := Lib.hid h4; clear h3 h4)
    (try simp only [Act.put, List.setIfInBounds_toArray, List.set_cons_zero, List.set_cons_succ])
    have hA2 := H4.out
    have hb2 := (hA2.block w.heap.size wl1).trans HBV.out
    have hf2 := HV.out.trans hA2
    have hz9 : ((encFs c []).length : Int) ≤ 1100 * (([] : List Nat).length : Int) := by simp [encFs]
    have e9 : UInt8.ofNat (c.kind % 256).toNat :: encFs c [] = [] ++ [UInt8.ofNat (c.kind % 256).toNat] := by simp [encFs]
    have h3' : PenAt 57 w1.heap.size w1.heap.size false (UInt8.ofNat (c.kind % 256).toNat :: encFs c []) w2 := by rw [e9]; exact H3.out
    have HI := Lib.hid (show WInv c (.slice pa c.pr.length pc) (.slice da c.dr.length dc) w1.heap.size w1.heap.size w.heap.size w2 [] w2 from ⟨hb2, h3', hz9, Below.refl _ _, hf2.size⟩)
    have SP2 := Lib.hid (Sl.below (A' := A) (B' := w1.heap.size) SP1.out (hf2.mono hBw1) (Nat.le_refl _) hBw1)
    have SD2 := Lib.hid (Sl.below (A' := A) (B' := w1.heap.size) SD1.out (hf2.mono hBw1) (Nat.le_refl _) hBw1)
    have HF2 := Lib.hid hf2
    clear hb2 hf2 hA2
    go_wp2_with (first | (go_at_call 28; refine (visit_write c _ _ A w1.heap.size w1.heap.size w.heap.size _ HG.out.fit wl1 SP2.out SD2.out HI.out).mono ?_; rintro e w3 ⟨rfl, h5⟩; have H5 := Lib.hid h5; clear h5) | (go_at_call 29; refine (penBytes 57 w1.heap.size w1.heap.size false _ _ H5.out.2.1 (by simp)).mono ?_; rintro e w4 ⟨rfl, h6⟩; have H6 := Lib.hid h6; clear h6))
    go_ret2
    refine ⟨_, _, rfl, fun _ => ⟨rfl, rfl⟩, fun h => absurd HG.out h, ?_⟩
    exact HF1.out.trans (((HF2.out.trans H5.out.2.2.2.1).trans H6.out).mono (Nat.le_of_lt wl1))
end Go.Proofs.Ytbedamkeeongfaa
