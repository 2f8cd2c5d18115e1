/- The walk of ZoneApart: it answers true, and below the heap's first end nothing changes. -/
import Derived.Test.YtlfeedjgimnahaaZf
namespace Go.Proofs.Ytlfeedjgimnahaa
open Go.RowKit Go.Proofs.Ytlfeedjgimnahaa.Mem
set_option linter.unusedVariables false

structure ApV (V : List ByteArray) : Prop where
  len : V.length = 10
  s32 : ∀ x ∈ V, x.size = 32
  z : ∀ i, i < 10 → (i = 0 ∨ 5 ≤ i) → V.getD i .empty = sec 0
theorem ApV.start : ApV (List.replicate 10 (sec 0)) := ⟨by simp, fun x hx => by rw [List.eq_of_mem_replicate hx]; exact sec_size 0, fun i hi _ => by simp only [List.getD, List.getElem?_replicate, if_pos hi, Option.getD_some]⟩
theorem ApV.set {V : List ByteArray} (h : ApV V) (i : Nat) (x : ByteArray) (hx : x.size = 32) (h1 : 1 ≤ i) (h4 : i < 5) : ApV (V.set i x) where
  len := by simp [h.len]
  s32 := fun y hy => by
    rcases List.mem_or_eq_of_mem_set hy with hy | rfl
    · exact h.s32 y hy
    · exact hx
  z := fun j hj hz => by
    have : (V.set i x).getD j .empty = V.getD j .empty := by simp only [List.getD, List.getElem?_set, if_neg (show ¬ i = j by omega)]
    rw [this]; exact h.z j hj hz

theorem ap_new {B b : Nat} {w0 w : World} (h : OwnD B w0 b ⟨false, -1, [], List.replicate 10 (sec 0), [], 0⟩ w) : OwnV B w0 b [] (List.replicate 10 (sec 0)) 0 w :=
  ⟨_, h.toZ, ⟨rfl, rfl, rfl, fun i hi => by simp [DS.read, lookBack], rfl, rfl⟩⟩

set_option maxRecDepth 100000 in
set_option maxHeartbeats 4000000 in
theorem zoneApart_walk (la : Option Addr) (lb lo len cap : Nat) (zs : List Int) (c : Int) (hc0 : 0 ≤ c) (hc1 : c ≤ 255) (w : World) (hlen : len ≤ maxLen) (hla : 0 < len → la = some ⟨lb, lo, none⟩) (hlb : 0 < len → lb < w.heap.size)
    (hc : ∀ j, j < len → w.cell? ⟨lb, lo + j, none⟩ = some (.int .u8 (zs.getD j 0))) (hz : ∀ j, 0 ≤ zs.getD j 0 ∧ zs.getD j 0 ≤ 255) (hlc : len ≤ cap) :
    Calls Try.prog 5 #[.slice la len cap, .int .u8 c] w fun e w' => e = .returned (.bool true) ∧ Below w.heap.size w w' := by
  have HC := Lib.hid hc
  have HZ := Lib.hid hz
  have HLA := Lib.hid hla
  have HLB := Lib.hid hlb
  have hlen' : (len : Int) ≤ 9223372036854775807 := by unfold maxLen at hlen; omega
  clear hc hz hla hlb hlen
  go_enter Try.func5, Try.ntmps5
  go_wp2_with fail
  refine (awake5 w).mono ?_
  rintro e w1 ⟨rfl, hb⟩
  go_wp2_with fail
  refine (new_own 10 (by decide) (by decide) hb (Nat.le_refl _)).mono ?_
  rintro e w2 ⟨b, rfl, h2⟩
  have h2 := ap_new h2
  clear hb
  go_wp2_with fail
  refine (vnew h2 1 4 (by decide) (by decide) (by decide)).mono ?_
  rintro e w3 ⟨rfl, h3⟩
  obtain ⟨za, hza⟩ : ∃ za, w2.heap.size = za := ⟨_, rfl⟩
  rw [hza] at h3 ⊢
  clear h2 hza
  go_wp2_with fail
  refine (vnew h3 5 4 (by decide) (by decide) (by decide)).mono ?_
  rintro e w4 ⟨rfl, h4⟩
  obtain ⟨zb, hzb⟩ : ∃ zb, w3.heap.size = zb := ⟨_, rfl⟩
  rw [hzb] at h4 ⊢
  have H4 := Lib.hid h4
  clear h3 hzb h4
  go_wp2_with fail
  go_loopw [10] (fun i wr => ∃ (k m : Nat) (V : List ByteArray), k ≤ 30 ∧ k ≤ len ∧ i = .int .i64 k ∧ m ≤ k ∧ ApV V ∧ OwnV w.heap.size w b [(zb, ((5 : Nat) : Int), ((4 : Nat) : Int)), (za, ((1 : Nat) : Int), ((4 : Nat) : Int))] V m wr) (fun i _ => 30 - (intOf i).toNat)
  case atStart => exact ⟨0, 0, _, by omega, by omega, rfl, by omega, ApV.start, H4.out⟩
  case round =>
    obtain ⟨k, m, V, hk, hkl, rfl, hm, hap, hv⟩ := hrel
    have HV := Lib.hid hv
    have HAP := Lib.hid hap
    have HK := Lib.hid hk
    have HM := Lib.hid hm
    clear hv hap hk hm
    by_cases hgo : k < len ∧ k < 30
    · obtain ⟨h1, h2⟩ := hgo
      obtain rfl := HLA.out (by omega)
      have hcw : ∀ w', Below w.heap.size w w' → w'.cell? ⟨lb, lo + k, none⟩ = some (.int .u8 (zs.getD k 0)) := fun w' hb => (hb.cell (p := ⟨lb, lo + k, none⟩) (HLB.out (by omega))).trans (HC.out k h1)
      obtain ⟨x, hx⟩ : ∃ x, zs.getD k 0 = x := ⟨_, rfl⟩
      have hx0 := (HZ.out k).1
      have hx1 := (HZ.out k).2
      rw [hx] at hcw hx0 hx1
      have HCW := Lib.hid hcw
      have c0 := hcw wr HV.out.bel
      clear hx hcw
      have hd0 : Below wr.heap.size wr wr.drew := (Below.refl _ _).drew
      have HD := Lib.hid (HV.out.below hd0)
      obtain ⟨z, hzd⟩ : ∃ z : Nat, x % 4 = z := ⟨(x % 4).toNat, by omega⟩
      have hz4 : z < 4 := by omega
      have hwm : IntKind.i64.wrap (x.tmod 4) = (z : Int) := by
        rw [Int.tmod_eq_emod_of_nonneg hx0, hzd]; exact IntWalk.i64_in _ (by omega)
      have hs := fun w' (h : OwnV w.heap.size w b [(zb, ((5 : Nat) : Int), ((4 : Nat) : Int)), (za, ((1 : Nat) : Int), ((4 : Nat) : Int))] V m w') => vwrite h za 1 4 (by simp) z hz4 (by rw [HAP.out.len]; decide) (by rw [HAP.out.len]; decide) (by have := HM.out; omega) (sec x) (sec_size _)
      have HWS := Lib.hid hs
      have HZ4 := Lib.hid hz4
      clear hs hd0 hzd hz4
      go_wp2_with fail
      go_region_with (first | (go_at_call 22; refine (of5 x hx0 hx1 _).mono ?_; rintro e w5 ⟨rfl, hb5⟩; have h6 := HD.out.below hb5; have c5 := HCW.out w5 h6.bel; have H6 := Lib.hid h6; clear h6 hb5) | (go_at_call 21; (with_reducible refine (HWS.out _ H6.out).mono ?_); rintro e w7 ⟨rfl, h7⟩; have H7 := Lib.hid h7; clear h7))
      all_goals
        clear hwm
        go_wp2
        go_roundw
        case rel => exact ⟨k + 1, m + 1, _, by omega, by omega, by go_num, by have := HM.out; omega, HAP.out.set (1 + z) (sec x) (sec_size _) (by omega) (by have := HZ4.out; omega), H7.out⟩
        case measure => simp [intOf]; omega
    · have hm30 : m ≤ 30 := by have := HM.out; have := HK.out; omega
      have hVl := HAP.out.len
      have hV32 := HAP.out.s32
      obtain ⟨V2, hV2⟩ : ∃ V2, (fillN V 5 (sec c) 4).1 = V2 := ⟨_, rfl⟩
      obtain ⟨m2, hm2⟩ : ∃ m2, m + (fillN V 5 (sec c) 4).2 = m2 := ⟨_, rfl⟩
      have hV2l : V2.length = 10 := by rw [← hV2, fillN_len]; exact hVl
      have hV2g : ∀ i, i < 10 → V2.getD i .empty = if 5 ≤ i ∧ i < 9 then sec c else V.getD i .empty := by
        intro i hi
        rw [← hV2, fillN_get _ _ _ _ _ (by omega) (by omega)]
      have hV232 : ∀ x ∈ V2, x.size = 32 := by
        intro x hx
        obtain ⟨i, hi, rfl⟩ := List.getElem_of_mem hx
        have := hV2g i (by omega)
        simp only [List.getD, List.getElem?_eq_getElem hi, Option.getD_some] at this
        rw [this]
        split
        · exact sec_size c
        · rw [List.getElem?_eq_getElem (show i < V.length by omega)]; exact hV32 _ (by simp)
      have hjj : joinN V2 1 4 = joinN V 1 4 := joinN_congr _ _ _ _ fun j hj => by rw [hV2g _ (by omega), if_neg (by omega)]
      obtain ⟨R, hR⟩ : ∃ R : ByteArray, (⟨(joinN V 1 4).toArray⟩ : ByteArray) = R := ⟨_, rfl⟩
      have hRs : R.size = 128 := by rw [← hR]; have := joinN_len V 1 hV32 4 (by omega); simp [ByteArray.size, this]
      have hRx : (⟨(joinN V2 (1 + 2) 2).toArray⟩ : ByteArray) = R.extract 64 R.size := by
        apply ba_ext
        rw [Lib.extract_data, hRs, ← hR]
        have h1 := joinN_add V2 1 2 2
        have h2 := joinN_len V2 1 hV232 2 (by omega)
        have h3 := joinN_len V2 (1 + 2) hV232 2 (by omega)
        rw [hjj] at h1
        show _ = ((joinN V 1 4).drop 64).take (128 - 64)
        rw [h1, List.drop_left' (by omega), List.take_of_length_le (by omega)]
      have ha1 := vall HV.out za 1 4 (by simp) (by omega) (by omega) hV32
      rw [hR] at ha1
      have hfl := fun w' (h : OwnV w.heap.size w b [(zb, ((5 : Nat) : Int), ((4 : Nat) : Int)), (za, ((1 : Nat) : Int), ((4 : Nat) : Int))] V m w') => vfill h zb 5 4 (by simp) (by omega) (by omega) (by omega) c hc0 hc1
      rw [hV2, hm2] at hfl
      have ha2 := fun w' (h : OwnV w.heap.size w b [(zb, ((5 : Nat) : Int), ((4 : Nat) : Int)), (za, ((1 : Nat) : Int), ((4 : Nat) : Int))] V2 m2 w') => vall h za 1 4 (by simp) (by omega) (by omega) hV232
      rw [hjj, hR] at ha2
      have HFL := Lib.hid hfl
      have HA2 := Lib.hid ha2
      have HG2 := Lib.hid hV2g
      have HL2 := Lib.hid hV2l
      have H32 := Lib.hid hV232
      have HRX := Lib.hid hRx
      have hRi : (R.size : Int) = 128 := by omega
      have HRI := Lib.hid hRi
      have hex : k = 30 ∧ (30 : Int) < len ∨ k = len ∧ (len : Int) ≤ 30 := by have := HK.out; omega
      clear hVl hV32 hV2 hm2 hV2l hV2g hV232 hjj hR hRs hRx hfl ha2 hgo hm30
      rcases hex with ⟨rfl, hx⟩ | ⟨rfl, hx⟩
      all_goals
        go_wp2_with (first | (go_at_call 19; refine ha1.mono ?_; rintro e w7 ⟨rfl, h7⟩; have H7 := Lib.hid h7; clear h7 ha1) | (go_at_call 18; refine (HFL.out _ H7.out).mono ?_; rintro e w8 ⟨rfl, h8⟩; have H8 := Lib.hid h8; clear h8) | (go_at_call 19; refine (HA2.out _ H8.out).mono ?_; rintro e w9 ⟨rfl, h9⟩; have H9 := Lib.hid h9; clear h9))
        clear hRi
        go_loopw [15] (fun i wr => ∃ k : Nat, k ≤ 10 ∧ i = .int .i64 k ∧ OwnV w.heap.size w b [(zb, ((5 : Nat) : Int), ((4 : Nat) : Int)), (za, ((1 : Nat) : Int), ((4 : Nat) : Int))] V2 m2 wr) (fun i _ => 10 - (intOf i).toNat)
        case atStart => exact ⟨0, by omega, rfl, H9.out⟩
        case round =>
          obtain ⟨j, hj, rfl, hv⟩ := hrel
          by_cases hlt : j < 10
          · have hrd := vdread hv j (by rw [HL2.out]; exact hlt)
            have hg := HG2.out j hlt
            have hzz := HAP.out.z j hlt
            have hcs : (j = 0 ∨ j = 9) ∨ (5 ≤ j ∧ j < 9) ∨ (1 ≤ j ∧ j < 5) := by omega
            rcases hcs with hcs | ⟨h5, h9⟩ | ⟨h1, h5⟩
            · rw [if_neg (by omega), hzz (by omega)] at hg
              rw [hg] at hrd
              clear hg hzz hv
              rcases hcs with rfl | rfl
              all_goals
                go_wp2_with (first | (go_at_call 23; refine hrd.mono ?_; rintro e w10 ⟨rfl, hv10⟩; have HV10 := Lib.hid hv10; clear hv10) | (go_at_call 22; refine (of5 0 (by decide) (by decide) _).mono ?_; rintro e w11 ⟨rfl, hb11⟩; have HV11 := Lib.hid (HV10.out.below hb11); clear hb11))
                go_roundw
                case rel => first | exact ⟨1, by omega, by go_num, HV11.out⟩ | exact ⟨10, by omega, by go_num, HV11.out⟩
                case measure => simp [intOf]
            · rw [if_pos ⟨h5, h9⟩] at hg
              rw [hg] at hrd
              clear hg hzz hv
              have e0 : ((j : Int) == 0) = false := by simp; omega
              have e9 : ((j : Int) == 9) = false := by simp; omega
              have e5 : (5 : Int) ≤ j := by omega
              have e6 : (j : Int) < 9 := by omega
              go_wp2_with (first | (go_at_call 23; refine hrd.mono ?_; rintro e w10 ⟨rfl, hv10⟩; have HV10 := Lib.hid hv10; clear hv10) | (go_at_call 22; refine (of5 c hc0 hc1 _).mono ?_; rintro e w11 ⟨rfl, hb11⟩; have HV11 := Lib.hid (HV10.out.below hb11); clear hb11))
              go_roundw
              case rel => exact ⟨j + 1, by omega, by go_num, HV11.out⟩
              case measure => simp [intOf]; omega
            · clear hg hzz hv
              have e0 : ((j : Int) == 0) = false := by simp; omega
              have e9 : ((j : Int) == 9) = false := by simp; omega
              have e5 : (j : Int) < 5 := by omega
              go_wp2_with (first | (go_at_call 23; refine hrd.mono ?_; rintro e w10 ⟨rfl, hv10⟩; have HV10 := Lib.hid hv10; clear hv10))
              go_roundw
              case rel => exact ⟨j + 1, by omega, by go_num, HV10.out⟩
              case measure => simp [intOf]; omega
          · obtain rfl : j = 10 := by omega
            have HV := Lib.hid hv
            clear hv
            go_wp2_with fail
            refine (vpart HV.out za 1 4 (by simp) (by rw [HL2.out]; decide) 2 2 (by decide) (by decide) (by rw [HL2.out]; decide)).mono ?_
            rintro e w12 ⟨zp, rfl, h12⟩
            go_wp2_with fail
            have hap := vall h12 zp (1 + 2) 2 (by simp) (by rw [HL2.out]; decide) (by rw [HL2.out]; decide) H32.out
            rw [HRX.out] at hap
            clear h12
            refine hap.mono ?_
            rintro e w13 ⟨rfl, h13⟩
            clear hap
            go_wp2_with fail
            refine (vpart_no h13 za 1 4 (by simp) (by decide) 3 2 (by decide) (by decide)).mono ?_
            rintro e w14 ⟨rfl, rfl⟩
            have hRi2 : (R.size : Int) = 128 := HRI.out
            have c0p : w13.cell? ⟨zp, 0, none⟩ = some (.pointer (some ⟨b, 0, none⟩)) := by simp [World.cell?, h13.zn (zp, ((1 + 2 : Nat) : Int), ((2 : Nat) : Int)) (by simp), znRow]
            have H13 := Lib.hid h13
            clear h13
            go_wp2_with (go_at_call 25; refine (vloose H13.out).mono ?_; rintro e w15 ⟨rfl, rfl⟩)
            go_ret
            exact ⟨rfl, H13.out.bel⟩
end Go.Proofs.Ytlfeedjgimnahaa
