/- Contract of order.All at commands that can be. The law's awake answers true. -/
import Derived.Test.YtbedamkeeongfaaOk
import Derived.Test.YtbedamkeeongfaaOt
namespace Go.Proofs.Ytbedamkeeongfaa
open Go.RowKit Go.Proofs.Ytbedamkeeongfaa.Mem
set_option linter.unusedVariables false

theorem pen_penT : PenT 55 := by unfold PenT; kernel_rfl

/-- commands in a block -/
def ComsAt (w : World) (A B lb o : Nat) (cs : List Cmd) : Prop :=
  lb < B ∧ ∀ i c, cs[i]? = some c → ∃ p d, Sl w A B p c.pr ∧ Sl w A B d c.dr ∧ w.cell? ⟨lb, o + i * 7, none⟩ = some (.int .i64 c.kind) ∧ w.cell? ⟨lb, o + i * 7 + 1, none⟩ = some (.int .i64 c.id) ∧ w.cell? ⟨lb, o + i * 7 + 2, none⟩ = some (.int .i64 c.n) ∧
    w.cell? ⟨lb, o + i * 7 + 3, none⟩ = some (.bool c.good) ∧ w.cell? ⟨lb, o + i * 7 + 4, none⟩ = some p ∧ w.cell? ⟨lb, o + i * 7 + 5, none⟩ = some d ∧ w.cell? ⟨lb, o + i * 7 + 6, none⟩ = some (.string c.data)
theorem ComsAt.below {w w' : World} {A B lb o : Nat} {cs : List Cmd} (h : ComsAt w A B lb o cs) (hb : Below B w w') : ComsAt w' A B lb o cs := by
  refine ⟨h.1, fun i c hc => ?_⟩
  obtain ⟨p, d, h1, h2, h3⟩ := h.2 i c hc
  refine ⟨p, d, h1.below hb (Nat.le_refl _) (Nat.le_refl _), h2.below hb (Nat.le_refl _) (Nat.le_refl _), ?_⟩
  have e : ∀ j, w'.cell? ⟨lb, j, none⟩ = w.cell? ⟨lb, j, none⟩ := fun j => World.cell?_of_block (hb.block lb h.1)
  rw [e, e, e, e, e, e, e]
  exact h3

/-- several commands' bytes -/
def encs (cs : List Cmd) : List UInt8 := cs.flatMap fun c => txB ⟨(enc c).toArray⟩
def allB (cs : List Cmd) : List UInt8 := le4 cs.length ++ encs cs
theorem fields_len (k : Int) : (fieldsOf k).length ≤ 4 := by
  rcases fields_cases k with h | h | h | h | h | h | h <;> rw [h] <;> simp
theorem enc_len {c : Cmd} (h : Fit c) : ((enc c).length : Int) ≤ 5000 := by
  have hl : ∀ fs : List Nat, ((encFs c fs).length : Int) ≤ 1100 * fs.length := by
    intro fs
    induction fs with
    | nil => simp [encFs]
    | cons f r ih =>
      have := encF_len h f
      simp only [encFs, List.flatMap_cons, List.length_append, List.length_cons] at ih ⊢
      omega
  have h1 := hl (fieldsOf c.kind)
  have h2 := fields_len c.kind
  simp only [enc, List.length_cons]
  omega
theorem encs_len {cs : List Cmd} (h : ∀ c ∈ cs, Fit c) : ((encs cs).length : Int) ≤ 5004 * cs.length := by
  induction cs with
  | nil => simp [encs]
  | cons c r ih =>
    have h1 := ih (fun x hx => h x (by simp [hx]))
    have h2 := enc_len (h c (by simp))
    have h3 : (txB ⟨(enc c).toArray⟩).length = 4 + (enc c).length := by simp [txB, le4]; omega
    simp only [encs, List.flatMap_cons, List.length_append, List.length_cons] at h1 ⊢
    omega
theorem encs_take {cs : List Cmd} {k : Nat} {c : Cmd} (h : cs[k]? = some c) : encs (cs.take (k + 1)) = encs (cs.take k) ++ txB ⟨(enc c).toArray⟩ := by
  rw [List.take_add_one, h]
  simp [encs]

theorem bytes_good (c : Cmd) (p d : Value) (A B : Nat) (w : World) (hp : Sl w A B p c.pr) (hd : Sl w A B d c.dr) (hB : B ≤ w.heap.size) (hg : goodP c) :
    Calls Try.prog 9 #[.agg #[.int .i64 c.kind, .int .i64 c.id, .int .i64 c.n, .bool c.good, p, d, .string c.data]] w fun e w' => e = .returned (.tuple #[.string ⟨(enc c).toArray⟩, .int .i64 0]) ∧ Below w.heap.size w w' :=
  (bytes_calls c p d A B w hp hd hB).mono fun e w' ⟨s, k, h1, h2, _, h4⟩ => ⟨by rw [h1, (h2 hg).1, (h2 hg).2], h4⟩

set_option maxRecDepth 100000 in
set_option maxHeartbeats 2000000 in
theorem all_calls (cs : List Cmd) (A B lb o cap : Nat) (w : World) (h : ComsAt w A B lb o cs) (hn : cs.length ≤ 3) (hn0 : 0 < cs.length) (hB : B ≤ w.heap.size) (hg : ∀ c ∈ cs, goodP c) :
    Calls Try.prog 22 #[.slice (some ⟨lb, o, none⟩) cs.length cap] w fun e w' => e = .returned (.tuple #[.string ⟨(allB cs).toArray⟩, .int .i64 0]) ∧ Below w.heap.size w w' := by
  have HCS := Lib.hid h
  have HG := Lib.hid hg
  have hTe : 55 ≠ 5 := by decide
  obtain ⟨n, hnn⟩ : ∃ n, cs.length = n := ⟨_, rfl⟩
  rw [hnn] at hn hn0 ⊢
  have HNN := Lib.hid hnn
  clear h hg hnn
  have hpn := PenAt.fresh 55 w
  have hni : (n : Int) ≤ 3 := by omega
  go_enter Try.func22, Try.ntmps22
  go_upto_region 4 with fail
  (try simp only [Act.put, List.setIfInBounds_toArray, List.set_cons_zero, List.set_cons_succ])
  generalize hW : w.alloc (.cells #[.pointer none, .slice none 0 0, .bool false] 55) = W at hpn
  have hbW : Below w.heap.size w W := by rw [← hW]; exact (Below.refl _ w).alloc (Nat.le_refl _) _
  have hWs : w.heap.size < W.heap.size := by rw [← hW]; simp
  clear hW
  have hnum := fun (W2 : World) (h1 : PenAt 55 w.heap.size w.heap.size false [] W2) (h2 : w.heap.size ≤ W2.heap.size) (g0 : Nat) (h3 : W2.cell? ⟨g0, 0, none⟩ = some (.int .i64 n)) (h4 : g0 ≠ w.heap.size) => penNum 55 w.heap.size w.heap.size pen_penT hTe false [] n g0 0 1 W2 h1 (by simp) h2 (by omega) h3 h4
  have HNUM := Lib.hid hnum
  have HPN := Lib.hid hpn
  have HW := Lib.hid hbW
  clear hnum hpn hbW
  go_wp2_with (go_at_call 47; refine (HNUM.out _ (PenAt.alloc HPN.out _) (by simp; omega) W.heap.size (World.cell?_alloc_at _ _ _ _ rfl) (by omega)).mono ?_; rintro e w1 ⟨rfl, h1, h2⟩; have H1 := Lib.hid h1; have H2 := Lib.hid h2; clear h1 h2)
  have hp1 : PenAt 55 w.heap.size w.heap.size false (le4 n ++ encs (cs.take 0)) w1 := by simpa [encs] using H1.out
  have hb1 : Below w.heap.size w w1 := ((HW.out.alloc (by omega) _).trans H2.out)
  have hl1 : w.heap.size < w1.heap.size := hp1.lt
  have HP1 := Lib.hid hp1
  have HB1 := Lib.hid hb1
  clear hp1 hb1
  go_loopw [18] (fun i wr => ∃ k : Nat, k ≤ n ∧ i = .int .i64 k ∧ PenAt 55 w.heap.size w.heap.size false (le4 n ++ encs (cs.take k)) wr ∧ Below w.heap.size w wr ∧ w.heap.size < wr.heap.size) (fun i _ => n - (intOf i).toNat)
  case atStart => exact ⟨0, by omega, rfl, HP1.out, HB1.out, hl1⟩
  case round =>
    obtain ⟨k, hk, rfl, hp, hb, hl⟩ := hrel
    have HP := Lib.hid hp
    have HB := Lib.hid hb
    by_cases hlt : k < n
    · have hki : (k : Int) < 3 := by omega
      obtain ⟨c, hc⟩ : ∃ c, cs[k]? = some c := ⟨cs[k]'(by rw [HNN.out]; exact hlt), List.getElem?_eq_getElem _⟩
      obtain ⟨p, d, s1, s2, k0, k1, k2, k3, k4, k5, k6⟩ := (HCS.out.below (hb.mono hB)).2 k c hc
      have hg := HG.out c (List.mem_of_getElem? hc)
      have hel := enc_len hg.fit
      have hes : ((encs (cs.take k)).length : Int) ≤ 20000 := by
        have h1 := encs_len (cs := cs.take k) (fun x hx => (HG.out x (List.mem_of_mem_take hx)).fit)
        have h2 : (cs.take k).length ≤ k := List.length_take_le _ _
        omega
      have hbl : lb < wr.heap.size := by have := HCS.out.1; omega
      obtain ⟨pa, pc, rfl⟩ := s1.slice
      obtain ⟨da, dc, rfl⟩ := s2.slice
      have SP := Lib.hid s1
      have SD := Lib.hid s2
      have HGC := Lib.hid hg
      have HC := Lib.hid hc
      have hBr : B ≤ wr.heap.size := by omega
      have hby := fun (o1 : Obj) => bytes_good c _ _ A B (wr.alloc o1) (Sl.below (A' := A) (B' := B) s1 ((Below.refl B wr).alloc hBr o1) (Nat.le_refl _) (Nat.le_refl _)) (Sl.below (A' := A) (B' := B) s2 ((Below.refl B wr).alloc hBr o1) (Nat.le_refl _) (Nat.le_refl _)) (by simp; omega) hg
      have HBY := Lib.hid hby
      have hdl : ((le4 (n : Int) ++ encs (cs.take k)).length : Int) + (⟨(enc c).toArray⟩ : ByteArray).size ≤ 800000 := by
        have : (⟨(enc c).toArray⟩ : ByteArray).size = (enc c).length := by simp [ByteArray.size]
        rw [List.length_append]
        have h4 : (le4 (n : Int)).length = 4 := rfl
        omega
      clear s1 s2 hg hc hp hb hby hel hes
      go_wp2_with (first | (go_at_call 9; refine (HBY.out _).mono ?_; rintro e w2 ⟨rfl, h2⟩; have hs2 := h2.size; have hp2 := (PenAt.alloc HP.out _).below h2; have HP2 := Lib.hid hp2; have H2' := Lib.hid h2; clear h2 hp2) | (go_at_call 48; refine (penText 55 w.heap.size w.heap.size pen_penT hTe false _ _ w2.heap.size 0 1 _ (PenAt.alloc HP2.out _) hdl (by simp at hs2; simp; omega) (World.cell?_alloc_at _ _ _ _ rfl) (by simp at hs2; omega)).mono ?_; rintro e w3 ⟨rfl, h3, h4⟩; have hs4 := h4.size; have H3' := Lib.hid h3; have H4' := Lib.hid h4; clear h3 h4))
      go_roundw
      case rel =>
        simp at hs2 hs4
        exact ⟨k + 1, by omega, by go_num, by have h := H3'.out; rw [List.append_assoc, ← encs_take HC.out] at h; exact h, ((HB.out.alloc (by omega) _).trans (H2'.out.mono (by simp; omega))).trans (((Below.refl _ w2).alloc (by omega) _).trans H4'.out), by omega⟩
      case measure => simp [intOf]; omega
    · obtain rfl : k = n := by omega
      have hne : le4 (k : Int) ++ encs (cs.take k) ≠ [] := by simp [le4]
      have hby := penBytes 55 w.heap.size w.heap.size false _ wr hp hne
      have HBY := Lib.hid hby
      clear hp hb hby hne
      go_wp2_with (go_at_call 29; refine HBY.out.mono ?_; rintro e w2 ⟨rfl, h2⟩; have H2' := Lib.hid h2; clear h2)
      go_ret2
      have e1 : le4 (k : Int) ++ encs (cs.take k) = allB cs := by rw [← HNN.out, List.take_length]; rfl
      rw [e1]
      exact ⟨rfl, HB.out.trans H2'.out⟩
end Go.Proofs.Ytbedamkeeongfaa

namespace Go.Proofs.Ytbedamkeeongfaa
open Go.RowKit Go.Proofs.Ytbedamkeeongfaa.Mem
set_option linter.unusedVariables false

theorem awk_good13 : goodP ⟨13, 0, 0, false, [], [], ⟨#[]⟩⟩ := ⟨⟨by decide, by decide⟩, rfl, rfl, rfl, rfl, rfl, by decide⟩
theorem awk_good5 : goodP ⟨5, 0, -1, false, [], [], ⟨#[]⟩⟩ := ⟨⟨by decide, by decide⟩, rfl, rfl, rfl, rfl, rfl, by decide⟩
theorem awk_bad : ¬ goodP ⟨13, 0, 1, false, [], [], ⟨#[]⟩⟩ := fun h => by
  have := congrArg Cmd.n h.2.1
  exact absurd this (by decide)
theorem awk_good6 : goodP ⟨6, 0, 0, true, [], [], ⟨#[]⟩⟩ := ⟨⟨by decide, by decide⟩, rfl, rfl, rfl, rfl, rfl, by decide⟩
theorem awk_enc13 : (⟨(enc ⟨13, 0, 0, false, [], [], ⟨#[]⟩⟩).toArray⟩ : ByteArray) = ⟨#[13]⟩ := by decide +kernel
theorem awk_enc5 : (⟨(enc ⟨5, 0, -1, false, [], [], ⟨#[]⟩⟩).toArray⟩ : ByteArray) = ⟨#[5, 255, 255, 255, 127]⟩ := by decide +kernel
theorem awk_all : (⟨(allB [⟨6, 0, 0, true, [], [], ⟨#[]⟩⟩]).toArray⟩ : ByteArray) = ⟨#[1, 0, 0, 0, 2, 0, 0, 0, 6, 1]⟩ := by decide +kernel
theorem awk_name : nameB 8 = ⟨#[99, 104, 117, 110, 107]⟩ := by decide +kernel
theorem awk_rd : rdP ⟨#[6, 1]⟩ = ⟨⟨#[]⟩, false, false, ⟨6, 0, 0, true, [], [], ⟨#[]⟩⟩⟩ := by kernel_rfl
theorem awk_parse : parseP ⟨#[6, 1]⟩ := by
  unfold parseP
  rw [awk_rd]
  exact ⟨rfl, rfl, rfl, by decide +kernel, by decide +kernel⟩

theorem awk_bytes13 (w : World) : Calls Try.prog 9 #[.agg #[.int .i64 13, .int .i64 0, .int .i64 0, .bool false, .slice none 0 0, .slice none 0 0, .string ⟨#[]⟩]] w fun e w' => e = .returned (.tuple #[.string ⟨#[13]⟩, .int .i64 0]) ∧ Below w.heap.size w w' := by
  have := bytes_good ⟨13, 0, 0, false, [], [], ⟨#[]⟩⟩ (.slice none 0 0) (.slice none 0 0) 0 0 w (Sl.nil _ _ _ _ _) (Sl.nil _ _ _ _ _) (Nat.zero_le _) awk_good13
  rw [awk_enc13] at this
  exact this
theorem awk_bytes5 (w : World) : Calls Try.prog 9 #[.agg #[.int .i64 5, .int .i64 0, .int .i64 (-1), .bool false, .slice none 0 0, .slice none 0 0, .string ⟨#[]⟩]] w fun e w' => e = .returned (.tuple #[.string ⟨#[5, 255, 255, 255, 127]⟩, .int .i64 0]) ∧ Below w.heap.size w w' := by
  have := bytes_good ⟨5, 0, -1, false, [], [], ⟨#[]⟩⟩ (.slice none 0 0) (.slice none 0 0) 0 0 w (Sl.nil _ _ _ _ _) (Sl.nil _ _ _ _ _) (Nat.zero_le _) awk_good5
  rw [awk_enc5] at this
  exact this
theorem awk_bytesB (w : World) : Calls Try.prog 9 #[.agg #[.int .i64 13, .int .i64 0, .int .i64 1, .bool false, .slice none 0 0, .slice none 0 0, .string ⟨#[]⟩]] w fun e w' => e = .returned (.tuple #[.string ⟨#[]⟩, .int .i64 1]) ∧ Below w.heap.size w w' :=
  (bytes_calls ⟨13, 0, 1, false, [], [], ⟨#[]⟩⟩ (.slice none 0 0) (.slice none 0 0) 0 0 w (Sl.nil _ _ _ _ _) (Sl.nil _ _ _ _ _) (Nat.zero_le _)).mono fun e w' ⟨s, k, h1, _, h3, h4⟩ => ⟨by rw [h1, (h3 awk_bad).1, (h3 awk_bad).2], h4⟩
theorem awk_parse61 (w : World) : Calls Try.prog 19 #[.string ⟨#[6, 1]⟩] w fun e w' => ∃ a1 c1 a2 c2, e = .returned (.tuple #[.agg #[.int .i64 6, .int .i64 0, .int .i64 0, .bool true, .slice a1 0 c1, .slice a2 0 c2, .string ⟨#[]⟩], .int .i64 0]) ∧ Below w.heap.size w w' := by
  refine (parse_calls ⟨#[6, 1]⟩ w (by decide)).mono ?_
  rintro e w' ⟨c, p, d, k, rfl, h1, h2, h3, _, h5⟩
  obtain ⟨rfl, rfl⟩ := h3 awk_parse
  rw [awk_rd] at h1 h2 ⊢
  obtain ⟨a1, c1, rfl⟩ := h1.slice
  obtain ⟨a2, c2, rfl⟩ := h2.slice
  exact ⟨a1, c1, a2, c2, rfl, h5⟩
theorem awk_all1 (w : World) (lb cap : Nat) (a1 a2 : Option Addr) (c1 c2 : Nat) (h : w.heap[lb]? = some (.cells #[.int .i64 6, .int .i64 0, .int .i64 0, .bool true, .slice a1 0 c1, .slice a2 0 c2, .string ⟨#[]⟩] 24 (0, 0))) :
    Calls Try.prog 22 #[.slice (some ⟨lb, 0, none⟩) 1 cap] w fun e w' => e = .returned (.tuple #[.string ⟨#[1, 0, 0, 0, 2, 0, 0, 0, 6, 1]⟩, .int .i64 0]) ∧ Below w.heap.size w w' := by
  have hl := lt_of_block h
  have hcs : ComsAt w 0 w.heap.size lb 0 [⟨6, 0, 0, true, [], [], ⟨#[]⟩⟩] := by
    refine ⟨hl, fun i c hc => ?_⟩
    match i, hc with
    | 0, hc =>
      simp at hc
      subst hc
      obtain ⟨k0, k1, k2, k3, k4, k5, k6, _⟩ := cmd_cells (r := ⟨6, 0, 0, true, [], [], ⟨#[]⟩⟩) h
      exact ⟨_, _, Sl.nil _ _ _ _ _, Sl.nil _ _ _ _ _, k0, k1, k2, k3, k4, k5, k6⟩
  have := all_calls [⟨6, 0, 0, true, [], [], ⟨#[]⟩⟩] 0 w.heap.size lb 0 cap w hcs (by decide) (by decide) (Nat.le_refl _) (by intro c hc; simp at hc; subst hc; exact awk_good6)
  rw [awk_all] at this
  exact this

set_option maxRecDepth 100000 in
set_option maxHeartbeats 2000000 in
theorem awake29 (w : World) : Calls Try.prog 5 #[] w fun e w' => e = .returned (.bool true) ∧ Below w.heap.size w w' := by
  go_enter Try.func5, Try.ntmps5
  go_wp2_with fail
  (with_reducible refine (awk_bytes13 _).mono ?_)
  rintro e w1 ⟨rfl, h1⟩
  go_wp2_with fail
  (with_reducible refine (awk_bytes5 _).mono ?_)
  rintro e w2 ⟨rfl, h2⟩
  go_wp2_with fail
  (with_reducible refine (awk_parse61 _).mono ?_)
  rintro e w3 ⟨a1, c1, a2, c2, rfl, h3⟩
  go_wp2_with fail
  (with_reducible refine (awk_bytesB _).mono ?_)
  rintro e w4 ⟨rfl, h4⟩
  have hb4 := (h4.block w3.heap.size (by simp)).trans (heap_alloc_new w3 _)
  obtain ⟨k0, k1, k2, k3, k4, k5, k6, _⟩ := cmd_cells (r := ⟨6, 0, 0, true, [], [], ⟨#[]⟩⟩) hb4
  have hl4 := lt_of_block hb4
  have hsz4 := h4.size
  have hm : ∀ w5, Below w4.heap.size w4 w5 → w5.cell? ⟨w3.heap.size, 3, none⟩ = some (.bool true) := fun w5 h => (h.cell (p := ⟨w3.heap.size, 3, none⟩) hl4).trans k3
  have HB := Lib.hid (((h1.trans (h2.mono h1.size)).trans (h3.mono (Nat.le_trans h1.size h2.size))).trans (((Below.refl w.heap.size w3).alloc (Nat.le_trans (Nat.le_trans h1.size h2.size) h3.size) _).trans (h4.mono (by have := h1.size; have := h2.size; have := h3.size; simp; omega))))
  have hwz : w.heap.size ≤ w4.heap.size := by have := h1.size; have := h2.size; have := h3.size; omega
  have HM := Lib.hid hm
  clear hb4 h1 h2 h3 h4 hsz4 hm
  go_wp2_with fail
  (with_reducible refine (awk_all1 _ _ _ a1 a2 c1 c2 (heap_alloc_new w4 _)).mono ?_)
  rintro e w5 ⟨rfl, h5⟩
  have h5' : Below w4.heap.size w4 w5 := ((Below.refl w4.heap.size w4).alloc (Nat.le_refl _) _).trans (h5.mono (by simp))
  have m3 := HM.out w5 h5'
  have hn8 := fun w => name_calls 8 w
  rw [awk_name] at hn8
  have HF := Lib.hid (HB.out.trans (h5'.mono hwz))
  clear h5 h5' k0 k1 k2 k3 k4 k5 k6
  go_wp2_with (go_at_call 12; (with_reducible refine (hn8 _).mono ?_); rintro e w6 ⟨rfl, h6⟩; have H6 := Lib.hid h6; clear h6)
  go_ret
  exact ⟨rfl, HF.out.trans (H6.out.mono (Nat.le_trans HF.out.size (Nat.le_refl _)))⟩
end Go.Proofs.Ytbedamkeeongfaa
