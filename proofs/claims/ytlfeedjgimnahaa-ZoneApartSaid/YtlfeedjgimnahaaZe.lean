/- The walk of ZoneFill: it answers true, and below the heap's first end nothing changes. -/
import Derived.Test.YtlfeedjgimnahaaZd
namespace Go.Proofs.Ytlfeedjgimnahaa
open Go.RowKit Go.Proofs.Ytlfeedjgimnahaa.Mem
set_option linter.unusedVariables false

theorem chunks_len : ∀ (n : Nat) (s : ByteArray), s.size ≤ n → (chunks s).length = s.size / 32 ∧ ∀ x ∈ chunks s, x.size = 32 := by
  intro n
  induction n using Nat.strongRecOn with
  | ind n ih =>
    intro s hn
    rw [chunks]
    by_cases h : 32 ≤ s.size
    · rw [dif_pos h]
      have hz := extract_size s h
      obtain ⟨h1, h2⟩ := ih (s.size - 32) (by omega) (s.extract 32 s.size) (by omega)
      refine ⟨by simp only [List.length_cons, h1, hz]; omega, fun x hx => ?_⟩
      simp only [List.mem_cons] at hx
      rcases hx with rfl | hx
      · simp [ByteArray.size_extract]; omega
      · exact h2 x hx
    · rw [dif_neg h]
      exact ⟨by simp; omega, fun x hx => by cases hx⟩

theorem joinN_fill (V : List ByteArray) (c : Int) (hall : ∀ i, i < V.length → V.getD i .empty = sec c) : ∀ k, k ≤ V.length → joinN V 0 k = List.replicate (32 * k) (UInt8.ofNat c.toNat)
  | 0, _ => rfl
  | k + 1, h => by
    rw [joinN, joinN_fill V c hall k (by omega), Nat.zero_add, hall k (by omega)]
    simp only [sec, strOfNums_data, List.map_replicate, List.replicate_append_replicate]
    congr 1

variable {B b : Nat} {w0 w : World} {Z : List (Nat × Int × Int)} {V : List ByteArray} {m : Nat}
theorem vdone (h : OwnV B w0 b Z V m w) : Calls Try.prog 13 #[.pointer (some ⟨b, 0, none⟩)] w fun e w' => e = .returned (.int .i64 m) ∧ w = w' := by
  obtain ⟨D, h1, h2⟩ := h
  refine (done_own h1.toD).mono fun e w' ⟨e1, e2⟩ => ⟨by rw [e1, h2.dn], e2⟩
theorem vlen (h : OwnV B w0 b Z V m w) : Calls Try.prog 17 #[.pointer (some ⟨b, 0, none⟩)] w fun e w' => e = .returned (.int .i64 V.length) ∧ w = w' := by
  obtain ⟨D, h1, h2⟩ := h
  refine (len_own h1.toD).mono fun e w' ⟨e1, e2⟩ => ⟨by rw [e1, h2.len], e2⟩
theorem vnew (h : OwnV B w0 b Z V m w) (f s : Nat) (hn : V.length ≤ 1000000) (hs : 1 ≤ s) (hfs : f + s ≤ V.length) :
    Calls Try.prog 16 #[.pointer (some ⟨b, 0, none⟩), .int .i64 f, .int .i64 s] w fun e w' => e = .returned (.tuple #[.pointer (some ⟨w.heap.size, 0, none⟩), .int .i64 0]) ∧ OwnV B w0 b ((w.heap.size, (f : Int), (s : Int)) :: Z) V m w' := by
  obtain ⟨D, h1, h2⟩ := h
  refine (znew_ok h1 f s (by rw [h2.len]; exact hn) (by omega) (by omega) (by rw [h2.len]; omega)).mono fun e w' ⟨e1, e2⟩ => ⟨e1, D, e2, h2⟩

set_option maxRecDepth 100000 in
set_option maxHeartbeats 4000000 in
theorem zoneFill_walk (s : ByteArray) (c : Int) (h0 : 0 ≤ c) (h1 : c ≤ 255) (hsm : s.size ≤ maxLen) (w : World) :
    Calls Try.prog 4 #[.string s, .int .u8 c] w fun e w' => e = .returned (.bool true) ∧ Below w.heap.size w w' := by
  have hsm' : (s.size : Int) ≤ 9223372036854775807 := by unfold maxLen at hsm; omega
  have HS := Lib.hid hsm
  clear hsm
  by_cases hA : (320 : Int) < s.size
  · go_enter Try.func4, Try.ntmps4
    go_wp2_with (go_at_call 14; refine (awake5 w).mono ?_; rintro e w1 ⟨rfl, hb⟩)
    go_ret
    exact ⟨rfl, hb⟩
  · by_cases hB : (s.size : Int) < 32
    · go_enter Try.func4, Try.ntmps4
      go_wp2_with (go_at_call 14; refine (awake5 w).mono ?_; rintro e w1 ⟨rfl, hb⟩)
      go_ret
      exact ⟨rfl, hb⟩
    · have hL := chunks_len s.size s (Nat.le_refl _)
      obtain ⟨L, hLd⟩ : ∃ L, (chunks s).length = L := ⟨_, rfl⟩
      have hL1 : 1 ≤ L := by rw [← hLd, hL.1]; omega
      have hL2 : L ≤ 10 := by rw [← hLd, hL.1]; omega
      have hof := fun w1 => of_dk s w1 (by omega) (by omega)
      have HO := Lib.hid hof
      have HL := Lib.hid hL
      have HLD := Lib.hid hLd
      have HA1 := Lib.hid hL1
      have HA2 := Lib.hid hL2
      have i1 : (1 : Int) ≤ L := by omega
      have i2 : (L : Int) ≤ 10 := by omega
      clear hof hL hLd hL1 hL2
      go_enter Try.func4, Try.ntmps4
      go_wp2_with fail
      refine (awake5 w).mono ?_
      rintro e w1 ⟨rfl, hb⟩
      go_wp2_with fail
      refine (HO.out w1).mono ?_
      rintro e w2 ⟨rfl, S, hd, hS, hb2⟩
      obtain ⟨b, hbb⟩ : ∃ b, w1.heap.size = b := ⟨_, rfl⟩
      have hv : OwnV w.heap.size w b [] (chunks s) 0 w2 := by
        refine ⟨_, (OwnD.toZ ⟨⟨S, hbb ▸ hd, fun x hx => Nat.le_trans hb.size (hS x hx)⟩, hb.trans (hb2.mono hb.size), Nat.le_refl _⟩), ⟨rfl, rfl, rfl, fun i hi => ?_, rfl, rfl⟩⟩
        simp [DS.read, lookBack]
      rw [hbb] at hd ⊢
      have HV := Lib.hid hv
      have hlen := vlen hv
      rw [HLD.out] at hlen
      clear hb hd hS hb2 hbb hv
      go_wp2_with fail
      refine hlen.mono ?_
      rintro e w3 ⟨rfl, rfl⟩
      go_wp2_with fail
      refine (vnew HV.out 0 L (by have := HLD.out; have := HA2.out; omega) HA1.out (by rw [HLD.out]; omega)).mono ?_
      rintro e w3 ⟨rfl, hv3⟩
      obtain ⟨zb, hzb⟩ : ∃ zb, w2.heap.size = zb := ⟨_, rfl⟩
      rw [hzb] at hv3 ⊢
      have HV3 := Lib.hid hv3
      clear HV hlen hv3 hzb
      have hfl := fun w' (m : Nat) (V : List ByteArray) (hV : V.length = L) (hm : m ≤ 1000) (h : OwnV w.heap.size w b [(zb, ((0 : Nat) : Int), (L : Int))] V m w') => vfill h zb 0 L (by simp) (by omega) (by have := HA2.out; omega) hm c h0 h1
      have HFL := Lib.hid hfl
      clear hfl
      go_wp2_with fail
      refine (HFL.out w3 0 (chunks s) HLD.out (by decide) HV3.out).mono ?_
      rintro e w4 ⟨rfl, hv4⟩
      obtain ⟨V, hVd⟩ : ∃ V, (fillN (chunks s) 0 (sec c) L).1 = V := ⟨_, rfl⟩
      obtain ⟨q, hq⟩ : ∃ q, 0 + (fillN (chunks s) 0 (sec c) L).2 = q := ⟨_, rfl⟩
      have hVl : V.length = L := by rw [← hVd, fillN_len]; exact HLD.out
      have hVa : ∀ i, i < V.length → V.getD i .empty = sec c := by
        intro i hi
        have := HLD.out
        rw [← hVd, fillN_get _ _ _ _ _ (by omega) (by omega), if_pos (by omega)]
      have hV32 : ∀ x ∈ V, x.size = 32 := by
        intro x hx
        obtain ⟨i, hi, rfl⟩ := List.getElem_of_mem hx
        have := hVa i hi
        simp only [List.getD, List.getElem?_eq_getElem hi, Option.getD_some] at this
        rw [this]; exact sec_size c
      have hqL : (q : Int) ≤ L := by have := fillN_le (chunks s) 0 (sec c) L; omega
      rw [hVd, hq] at hv4
      have hq2 : fillN V 0 (sec c) L = (V, 0) := by
        have key : ∀ k, k ≤ V.length → fillN V 0 (sec c) k = (V, 0) := by
          intro k
          induction k with
          | zero => intro _; rfl
          | succ k ih => intro hk; rw [fillN, ih (by omega), if_pos (by simp only [Nat.zero_add]; exact hVa k (by omega))]
        exact key L (by omega)
      have hz4 := hv4.zn (zb, ((0 : Nat) : Int), (L : Int)) (by simp)
      have c4 : w4.cell? ⟨zb, 0, none⟩ = some (.pointer (some ⟨b, 0, none⟩)) := by simp [World.cell?, hz4, znRow]
      have hdn := vdone hv4
      have hal := vall hv4 zb 0 L (by simp) (by omega) (by have := HA2.out; omega) hV32
      obtain ⟨R, hR⟩ : ∃ R : ByteArray, (⟨(joinN V 0 L).toArray⟩ : ByteArray) = R := ⟨_, rfl⟩
      have hjn := joinN_fill V c hVa L (by omega)
      rw [hjn] at hR
      have hRs : R.size = 32 * L := by rw [← hR]; simp [ByteArray.size]
      rw [hjn, hR] at hal
      have HV4 := Lib.hid hv4
      have HVL := Lib.hid hVl
      have HQ2 := Lib.hid hq2
      have HRR := Lib.hid hR
      have HRS := Lib.hid hRs
      have hRi : (R.size : Int) = L * 32 := by omega
      clear hVd hq hVl hVa hV32 hjn hR hRs hq2 hz4 hv4 HV3
      go_wp2_with (first | (go_at_call 13; refine hdn.mono ?_; rintro e w5 ⟨rfl, rfl⟩) | (go_at_call 19; refine hal.mono ?_; rintro e w6 ⟨rfl, hv6⟩; have HV6 := Lib.hid hv6; clear hv6 hal hdn))
      have hRi2 : (R.size : Int) ≤ 320 := by omega
      have hget : ∀ (k : Nat) (hk : k < R.size), (R[k].toNat : Int) = c := by
        intro k hk
        have hs := HRS.out
        have e : R[k] = UInt8.ofNat c.toNat := by
          have hRR := HRR.out
          subst hRR
          show (List.replicate (32 * L) (UInt8.ofNat c.toNat)).toArray[k]'(by simpa [ByteArray.size] using hk) = _
          simp
        rw [e]
        have : (UInt8.ofNat c.toNat).toNat = c.toNat := by simp; omega
        rw [this]; omega
      have HG := Lib.hid hget
      clear hget
      go_loop [11] (fun i => ∃ k : Nat, k ≤ R.size ∧ i = .int .i64 k) (fun i => R.size - (intOf i).toNat)
      case atStart => exact ⟨0, Nat.zero_le _, rfl⟩
      case round =>
        obtain ⟨k, hk, rfl⟩ := hrel
        by_cases hlt : k < R.size
        · have hx := HG.out k hlt
          go_wp2
          all_goals
            go_round
            case rel => exact ⟨k + 1, by omega, by go_num⟩
            case measure => simp [intOf]; omega
        · obtain rfl : k = R.size := by omega
          have h6 := HV6.out
          have hz6 := h6.zn (zb, ((0 : Nat) : Int), (L : Int)) (by simp)
          have hl6 := zlen_any b 0 L zb w6 hz6
          have hf6 := HFL.out w6 q V HVL.out (by have := HA2.out; omega) h6
          rw [HQ2.out] at hf6
          clear h6 hz6
          go_wp2_with (first | (go_at_call 20; refine hl6.mono ?_; rintro e w7 ⟨rfl, rfl⟩) | (go_at_call 18; refine hf6.mono ?_; rintro e w8 ⟨rfl, hv8⟩; have c8 : w8.cell? ⟨zb, 0, none⟩ = some (.pointer (some ⟨b, 0, none⟩)) := (by simp [World.cell?, hv8.zn (zb, ((0 : Nat) : Int), (L : Int)) (by simp), znRow]); have HV8 := Lib.hid hv8; clear hv8) | (go_at_call 13; refine (vdone HV8.out).mono ?_; rintro e w9 ⟨rfl, rfl⟩))
          go_ret
          exact ⟨rfl, HV8.out.bel⟩
end Go.Proofs.Ytlfeedjgimnahaa
