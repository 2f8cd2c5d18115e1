/- The walk of DiskFuse: it answers true, and below the heap's first end nothing changes. -/
import Derived.Test.YtlfeedjgimnahaaDo
import Derived.IntWalk
namespace Go.Proofs.Ytlfeedjgimnahaa
open Go.RowKit Go.Proofs.Ytlfeedjgimnahaa.Mem
set_option linter.unusedVariables false

/-- the disk of DiskFuse behind k deeds, of a fuse of n -/
structure FuseSt (n k : Nat) (D : DS) : Prop where
  len : D.safe.length = 4
  ll : D.loose.length ≤ k
  on : k ≤ n → D.away = false ∧ D.fuse = (n : Int) - k ∧ D.done = k
  off : n < k → D.away = true ∧ D.done = n

/-- so it stands in memory -/
def FS (B : Nat) (w0 : World) (b n k : Nat) (w : World) : Prop := ∃ D, OwnD B w0 b D w ∧ FuseSt n k D

theorem FS.below {B w0 b n k w w'} (h : FS B w0 b n k w) (hb : Below w.heap.size w w') : FS B w0 b n k w' := by
  obtain ⟨D, h1, h2⟩ := h
  exact ⟨D, h1.below hb, h2⟩
theorem FS.bel {B w0 b n k w} (h : FS B w0 b n k w) : Below B w0 w := by obtain ⟨D, h1, _⟩ := h; exact h1.bel

theorem FS.start {B b n : Nat} {w0 w : World} (hn : n ≤ 30) (h : OwnD B w0 b ((⟨false, -1, [], List.replicate 4 (sec 0), [], 0⟩ : DS).fused n (List.replicate 10 true)) w) : FS B w0 b n 0 w :=
  ⟨_, h, ⟨rfl, by simp [DS.fused], fun _ => ⟨rfl, by show max (n : Int) (-1) = _; omega, rfl⟩, fun h => absurd h (by omega)⟩⟩

theorem sync_fs {B b n k : Nat} {w0 w : World} (h : FS B w0 b n k w) (hk : k < 30) (hn : n ≤ 30) :
    Calls Try.prog 9 #[.pointer (some ⟨b, 0, none⟩)] w fun e w' => e = .returned (.int .i64 (if k < n then 0 else 4)) ∧ FS B w0 b n (k + 1) w' := by
  obtain ⟨D, h1, h2⟩ := h
  obtain ⟨S, hS, hB⟩ := h1.dk
  rcases Nat.lt_trichotomy k n with hlt | rfl | hgt
  · obtain ⟨a1, a2, a3⟩ := h2.on (by omega)
    rw [if_pos hlt]
    refine (sync_dk hS a1 (by omega) (by omega)).mono fun e w' ⟨e1, e2⟩ => ⟨e1, _, h1.step hB e2, ?_, ?_, ?_, ?_⟩
    · simp [DS.synced, keepN_len]; exact h2.len
    · simp [DS.synced]
    · intro _; exact ⟨a1, by show max (D.fuse - 1) (-1) = _; omega, by show D.done + 1 = _; omega⟩
    · intro h; omega
  · obtain ⟨a1, a2, a3⟩ := h2.on (by omega)
    rw [if_neg (by omega)]
    refine (sync_cut hS a1 (by omega)).mono fun e w' ⟨e1, e2⟩ => ⟨e1, _, h1.step hB e2, ?_, ?_, ?_, ?_⟩
    · simp [DS.cut, DS.cutBy, keepN_len]; exact h2.len
    · simp [DS.cut, DS.cutBy]
    · intro h; omega
    · intro _; exact ⟨rfl, a3⟩
  · obtain ⟨a1, a2⟩ := h2.off hgt
    rw [if_neg (by omega)]
    refine (sync_away hS a1).mono fun e w' ⟨e1, e2⟩ => ⟨e1, D, e2 ▸ h1, h2.len, by have := h2.ll; omega, fun h => by omega, fun _ => ⟨a1, a2⟩⟩

theorem write_fs {B b n k : Nat} {w0 w : World} (h : FS B w0 b n k w) (hk : k < 30) (hn : n ≤ 30) (at_ : Int) (s : ByteArray) (hs : s.size = 32) (h0 : 0 ≤ at_) (h4 : at_ < 4) :
    Calls Try.prog 10 #[.pointer (some ⟨b, 0, none⟩), .int .i64 at_, .string s] w fun e w' => e = .returned (.int .i64 (if k < n then 0 else 4)) ∧ FS B w0 b n (k + 1) w' := by
  obtain ⟨D, h1, h2⟩ := h
  obtain ⟨S, hS, hB⟩ := h1.dk
  have hl := h2.len
  have hll := h2.ll
  have hat : at_ < D.safe.length := by omega
  rcases Nat.lt_trichotomy k n with hlt | rfl | hgt
  · obtain ⟨a1, a2, a3⟩ := h2.on (by omega)
    rw [if_pos hlt]
    refine (write_dk hS a1 (by omega) (by omega) (by omega) at_ s hs h0 hat).mono fun e w' ⟨e1, e2⟩ => ⟨e1, _, h1.step hB e2, ?_, ?_, ?_, ?_⟩
    · exact h2.len
    · simp [DS.written]; omega
    · intro _; exact ⟨a1, by show max (D.fuse - 1) (-1) = _; omega, by show D.done + 1 = _; omega⟩
    · intro h; omega
  · obtain ⟨a1, a2, a3⟩ := h2.on (by omega)
    rw [if_neg (by omega)]
    refine (write_cut hS a1 (by omega) at_ s hs h0 hat).mono fun e w' ⟨e1, e2⟩ => ⟨e1, _, h1.step hB e2, ?_, ?_, ?_, ?_⟩
    · simp [DS.cut, DS.cutBy, keepN_len]; exact h2.len
    · simp [DS.cut, DS.cutBy]
    · intro h; omega
    · intro _; exact ⟨rfl, a3⟩
  · obtain ⟨a1, a2⟩ := h2.off hgt
    rw [if_neg (by omega)]
    refine (write_away hS a1 at_ s hs h0 hat).mono fun e w' ⟨e1, e2⟩ => ⟨e1, D, e2 ▸ h1, h2.len, by have := h2.ll; omega, fun h => by omega, fun _ => ⟨a1, a2⟩⟩

theorem isOn_fs {B b n k : Nat} {w0 w : World} (h : FS B w0 b n (k + 1) w) : Calls Try.prog 12 #[.pointer (some ⟨b, 0, none⟩)] w fun e w' => e = .returned (.bool (decide (k < n))) ∧ w = w' := by
  obtain ⟨D, h1, h2⟩ := h
  refine (isOn_own h1).mono fun e w' ⟨e1, e2⟩ => ⟨?_, e2⟩
  rw [e1]
  by_cases hk : k < n
  · rw [(h2.on (by omega)).1]; simp [hk]
  · rw [(h2.off (by omega)).1]; simp [hk]

theorem done_fs {B b n k : Nat} {w0 w : World} (h : FS B w0 b n k w) : Calls Try.prog 13 #[.pointer (some ⟨b, 0, none⟩)] w fun e w' => e = .returned (.int .i64 (min n k : Nat)) ∧ w = w' := by
  obtain ⟨D, h1, h2⟩ := h
  refine (done_own h1).mono fun e w' ⟨e1, e2⟩ => ⟨?_, e2⟩
  rw [e1]
  congr 2
  by_cases hk : k ≤ n
  · rw [(h2.on hk).2.2]; omega
  · rw [(h2.off (by omega)).2]; omega

theorem mod31 (f : Int) : ∃ n : Nat, n ≤ 30 ∧ (IntKind.u64.wrap f).tmod 31 = n := by
  have h0 : 0 ≤ IntKind.u64.wrap f := by unfold IntKind.wrap; simp [IntKind.bits, IntKind.signed]; omega
  refine ⟨((IntKind.u64.wrap f).tmod 31).toNat, ?_, ?_⟩ <;> rw [Int.tmod_eq_emod_of_nonneg h0] <;> omega

set_option maxRecDepth 100000 in
set_option maxHeartbeats 1000000 in
theorem diskFuse_walk (la : Option Addr) (lb lo len cap : Nat) (zs : List Int) (fuse : Int) (w : World) (hlen : len ≤ maxLen) (hla : 0 < len → la = some ⟨lb, lo, none⟩) (hlb : 0 < len → lb < w.heap.size)
    (hc : ∀ j, j < len → w.cell? ⟨lb, lo + j, none⟩ = some (.int .u8 (zs.getD j 0))) (hz : ∀ j, 0 ≤ zs.getD j 0 ∧ zs.getD j 0 ≤ 255) (hlc : len ≤ cap) :
    Calls Try.prog 3 #[.slice la len cap, .int .i64 fuse] w fun e w' => e = .returned (.bool true) ∧ Below w.heap.size w w' := by
  obtain ⟨n, hn, hmod⟩ := mod31 fuse
  have HC := Lib.hid hc
  have HZ := Lib.hid hz
  have HLA := Lib.hid hla
  have HLB := Lib.hid hlb
  have HN := Lib.hid hn
  have hn' : (n : Int) ≤ 30 := by omega
  have hlen' : (len : Int) ≤ 9223372036854775807 := by unfold maxLen at hlen; omega
  have HLN := Lib.hid hlen
  clear hc hz hla hlb hn hlen
  go_enter Try.func3, Try.ntmps3
  go_wp2_with fail
  refine (awake4 w).mono ?_
  rintro e w1 ⟨rfl, hb⟩
  go_wp2_with fail
  refine (new_own 4 (by decide) (by decide) hb (Nat.le_refl _)).mono ?_
  rintro e w2 ⟨b, rfl, h2⟩
  clear hb
  go_wp2_with fail
  refine (fuse_new h2 rfl n (by omega) (List.replicate 10 true) (by decide) _).mono ?_
  rintro e w3 ⟨rfl, h3⟩
  have h3 := FS.start HN.out h3
  clear h2
  go_wp2_with fail
  clear hmod
  go_loopw [7] (fun i wr => ∃ k : Nat, k ≤ 30 ∧ k ≤ len ∧ i = .int .i64 k ∧ FS w.heap.size w b n k wr) (fun i _ => 30 - (intOf i).toNat)
  case atStart => exact ⟨0, by omega, by omega, rfl, h3⟩
  case round =>
    obtain ⟨k, hk, hkl, rfl, hfs⟩ := hrel
    have HF := Lib.hid hfs
    have HK := Lib.hid hk
    clear hfs hk
    by_cases h1 : k < len
    · by_cases h2 : k < 30
      · obtain rfl := HLA.out (by omega)
        have hcw : ∀ w', Below w.heap.size w w' → w'.cell? ⟨lb, lo + k, none⟩ = some (.int .u8 (zs.getD k 0)) := fun w' hb => (hb.cell (p := ⟨lb, lo + k, none⟩) (HLB.out (by omega))).trans (HC.out k h1)
        obtain ⟨x, hx⟩ : ∃ x, zs.getD k 0 = x := ⟨_, rfl⟩
        have hx0 := (HZ.out k).1
        have hx1 := (HZ.out k).2
        rw [hx] at hcw hx0 hx1
        have HCW := Lib.hid hcw
        have c0 := hcw wr HF.out.bel
        clear hx hcw
        have HX := Lib.hid (show 0 ≤ x % 4 ∧ x % 4 < 4 by omega)
        have hd0 : Below wr.heap.size wr wr.drew := (Below.refl _ _).drew
        have HD := Lib.hid (HF.out.below hd0)
        clear hd0
        by_cases h5 : x % 5 = 0
        · have h5' : (x % 5 == 0) = true := by simp [h5]
          clear h5
          by_cases hkn : k < n
          · have hs := sync_fs HF.out h2 HN.out
            rw [if_pos hkn] at hs
            go_wp2_with fail
            refine hs.mono ?_
            rintro e w4 ⟨rfl, h4⟩
            have H4 := Lib.hid h4
            clear h4
            go_wp2_with (go_at_call 12; refine (isOn_fs H4.out).mono ?_; rintro e w5 ⟨rfl, rfl⟩)
            go_roundw
            case rel => exact ⟨k + 1, by omega, by omega, by go_num, H4.out⟩
            case measure => simp [intOf]; omega
          · have hs := sync_fs HF.out h2 HN.out
            rw [if_neg hkn] at hs
            go_wp2_with fail
            refine hs.mono ?_
            rintro e w4 ⟨rfl, h4⟩
            have H4 := Lib.hid h4
            clear h4
            go_wp2_with (go_at_call 12; refine (isOn_fs H4.out).mono ?_; rintro e w5 ⟨rfl, rfl⟩)
            go_roundw
            case rel => exact ⟨k + 1, by omega, by omega, by go_num, H4.out⟩
            case measure => simp [intOf]; omega
        · have h5' : (x % 5 == 0) = false := by simp [h5]
          clear h5
          have hwm : IntKind.i64.wrap (x.tmod 4) = x % 4 := by
            rw [Int.tmod_eq_emod_of_nonneg hx0]; exact IntWalk.i64_in _ (by omega)
          have hs := fun w' (h : FS w.heap.size w b n k w') => write_fs h h2 HN.out (x % 4) (sec x) (sec_size _) HX.out.1 HX.out.2
          have HWS := Lib.hid hs
          clear hs
          by_cases hkn : k < n
          all_goals
          go_wp2_with fail
          go_region_with (first | (go_at_call 11; refine (of4 x hx0 hx1 _).mono ?_; rintro e w5 ⟨rfl, hb5⟩; have h6 := HD.out.below hb5; have c5 := HCW.out w5 h6.bel; have H6 := Lib.hid h6; clear h6 hb5) | (go_at_call 10; (with_reducible refine (HWS.out _ H6.out).mono ?_); rintro e w7 ⟨rfl, h7⟩; have H7 := Lib.hid h7; clear h7))
          all_goals
            clear hwm
            go_wp2_with (go_at_call 12; refine (isOn_fs H7.out).mono ?_; rintro e w5 ⟨rfl, rfl⟩)
            go_roundw
            case rel => exact ⟨k + 1, by omega, by omega, by go_num, H7.out⟩
            case measure => simp [intOf]; omega
      · obtain rfl : k = 30 := by have := HK.out; omega
        have hl30 : (30 : Int) ≤ len := by omega
        have he : (((min n 30 : Nat) : Int) == min (n : Int) (min (len : Int) 30)) = true := by rw [beq_iff_eq]; omega
        go_wp2_with (go_at_call 13; refine (done_fs HF.out).mono ?_; rintro e w5 ⟨rfl, rfl⟩)
        go_ret
        exact ⟨rfl, HF.out.bel⟩
    · obtain rfl : k = len := by omega
      have hl30 : (k : Int) ≤ 30 := by have := HK.out; omega
      have he : (((min n k : Nat) : Int) == min (n : Int) (min (k : Int) 30)) = true := by rw [beq_iff_eq]; omega
      go_wp2_with (go_at_call 13; refine (done_fs HF.out).mono ?_; rintro e w5 ⟨rfl, rfl⟩)
      go_ret
      exact ⟨rfl, HF.out.bel⟩
end Go.Proofs.Ytlfeedjgimnahaa
