/- Contracts of the pen's Byte, Num, Text and Bytes, and of the writer's methods over it. -/
import Derived.Test.YtbedamkeeongfaaOb
namespace Go.Proofs.Ytbedamkeeongfaa
open Go.RowKit Go.Proofs.Ytbedamkeeongfaa.Mem
set_option linter.unusedVariables false

/-- the i-th byte of a number -/
def b4 (n : Int) (i : Nat) : UInt8 := UInt8.ofNat (n.toNat / 256 ^ i % 256)
/-- a number's bytes -/
def le4 (n : Int) : List UInt8 := [b4 n 0, b4 n 1, b4 n 2, b4 n 3]
set_option maxRecDepth 10000 in
theorem b4_val (n : Int) (h0 : 0 ≤ n) (i : Nat) : ((b4 n i).toNat : Int) = n / 256 ^ i % 256 := by
  obtain ⟨m, rfl⟩ : ∃ m : Nat, n = m := ⟨n.toNat, by omega⟩
  have : m / 256 ^ i % 256 < 256 := Nat.mod_lt _ (by decide)
  simp only [b4, Int.toNat_natCast, UInt8.toNat_ofNat']
  rw [Nat.mod_eq_of_lt (by omega)]
  push_cast
  rfl

theorem num_byte (n : Int) (i : Nat) (s : Int) (hs : s = 8 * i) (h0 : 0 ≤ n) (hi : i ≤ 3 := by decide) : ∃ q c : Int, Op.shift .shr .i64 n .i64 (IntKind.i64.wrap s) = pure (.int .i64 q) ∧ IntKind.u8.wrap q = c ∧ c = (b4 n i).toNat := by
  have hw : IntKind.i64.wrap s = s := IntWalk.i64_in s (by omega)
  refine ⟨n / 2 ^ s.toNat, _, by rw [hw]; exact shift_shr .i64 .i64 n s (by omega) (by show s ≤ 64; omega), rfl, ?_⟩
  rw [b4_val n h0, hs]
  rcases (by omega : i = 0 ∨ i = 1 ∨ i = 2 ∨ i = 3) with rfl | rfl | rfl | rfl <;> simp [IntKind.wrap, IntKind.bits, IntKind.signed]

set_option maxRecDepth 100000 in
theorem penByte (T B b : Nat) (hT : PenT T) (hTe : T ≠ 5) (bad : Bool) (l m : List UInt8) (g0 o0 c0 : Nat) (w : World) (h : PenAt T B b bad l w) (hlen : (l.length : Int) + m.length ≤ 1000000) (hBw : B ≤ w.heap.size)
    (hm : ∀ j u, (Lib.byteCells m)[j]? = some u → w.cell? ⟨g0, o0 + j, none⟩ = some u) (hgb : g0 ≠ b) :
    Calls Try.prog 27 #[.pointer (some ⟨b, 0, none⟩), .slice (some ⟨g0, o0, none⟩) m.length c0] w fun e w' => e = .returned (.tuple #[]) ∧ PenAt T B b bad (l ++ m) w' ∧ Below B w w' := by
  have HM := Lib.hid hm
  have H := Lib.hid h
  clear h hm
  go_enter Try.func27, Try.ntmps27
  go_wp2_with (go_at_call 51; refine (write_pen T B b hT hTe bad l m g0 o0 c0 _ H.out hlen hBw HM.out hgb).mono ?_)
  rintro e w1 ⟨rfl, h1, h2⟩
  have H1 := Lib.hid h1
  clear h1
  go_wp2
  go_end0
  exact ⟨rfl, H1.out, h2⟩

set_option maxRecDepth 100000 in
set_option maxHeartbeats 1000000 in
theorem penNum (T B b : Nat) (hT : PenT T) (hTe : T ≠ 5) (bad : Bool) (l : List UInt8) (n : Int) (g0 o0 c0 : Nat) (w : World) (h : PenAt T B b bad l w) (hlen : (l.length : Int) ≤ 900000) (hBw : B ≤ w.heap.size)
    (hn : 0 ≤ n ∧ n < 4294967296) (hm : w.cell? ⟨g0, o0, none⟩ = some (.int .i64 n)) (hgb : g0 ≠ b) :
    Calls Try.prog 47 #[.pointer (some ⟨b, 0, none⟩), .slice (some ⟨g0, o0, none⟩) 1 c0] w fun e w' => e = .returned (.tuple #[]) ∧ PenAt T B b bad (l ++ le4 n) w' ∧ Below B w w' := by
  obtain ⟨hn0, hn1⟩ := hn
  have HT := Lib.hid hT
  have H := Lib.hid h
  clear h hT
  go_enter Try.func47, Try.ntmps47
  go_wp2_with fail
  go_loopw [11] (fun i wr => ∃ k : Nat, k ≤ 1 ∧ i = .int .i64 k ∧ ((k = 0 ∧ w = wr) ∨ (k = 1 ∧ PenAt T B b bad (l ++ le4 n) wr ∧ Below B w wr))) (fun i _ => 1 - (intOf i).toNat)
  case atStart => exact ⟨0, by omega, rfl, .inl ⟨rfl, rfl⟩⟩
  case round =>
    obtain ⟨k, hk, rfl, hR⟩ := hrel
    rcases hR with ⟨rfl, rfl⟩ | ⟨rfl, hp, hb⟩
    · go_wp2_with fail
      go_loopw [24] (fun i wr => ∃ k : Nat, k ≤ 4 ∧ i = .int .i64 k ∧ PenAt T B b bad (l ++ (le4 n).take k) wr ∧ Below B w wr) (fun i _ => 4 - (intOf i).toNat)
      case atStart => exact ⟨0, by omega, rfl, by simpa using H.out, Below.refl _ _⟩
      case round =>
        obtain ⟨i, hi, rfl, hp, hb⟩ := hrel
        have HP := Lib.hid hp
        have hl4 : ((l ++ (le4 n).take i).length : Int) ≤ 1000000 := by simp [le4]; omega
        have hz : B ≤ wr.drew.heap.size := by have := hb.size; simp; omega
        clear hp
        rcases (by omega : i = 4 ∨ i = 0 ∨ i = 1 ∨ i = 2 ∨ i = 3) with rfl | rfl | rfl | rfl | rfl
        · go_wp2_with fail
          exact ⟨⟨1, by omega, rfl, .inr ⟨rfl, HP.out, hb⟩⟩, by decide⟩
        · obtain ⟨q, c, hq, hqc, hc⟩ := num_byte n 0 0 rfl hn0
          have HC := Lib.hid hc
          clear hc
          go_wp2_with fail
          go_region_with ((with_reducible refine (writeByte_penz T B b HT.out hTe bad _ _ (b4 n 0) _ HC.out (PenAt.drew HP.out) hl4 hz).mono ?_); rintro e w1 ⟨rfl, h1, h2⟩; have H1 := Lib.hid h1; clear h1)
          go_wp2
          go_roundw
          case rel => exact ⟨1, by omega, by go_num, by have h := H1.out; rw [List.append_assoc] at h; exact h, (hb.drew.trans h2)⟩
          case measure => simp [intOf]
        · obtain ⟨q, c, hq, hqc, hc⟩ := num_byte n 1 8 rfl hn0
          have HC := Lib.hid hc
          clear hc
          go_wp2_with fail
          go_region_with ((with_reducible refine (writeByte_penz T B b HT.out hTe bad _ _ (b4 n 1) _ HC.out (PenAt.drew HP.out) hl4 hz).mono ?_); rintro e w1 ⟨rfl, h1, h2⟩; have H1 := Lib.hid h1; clear h1)
          go_wp2
          go_roundw
          case rel => exact ⟨2, by omega, by go_num, by have h := H1.out; rw [List.append_assoc] at h; exact h, (hb.drew.trans h2)⟩
          case measure => simp [intOf]
        · obtain ⟨q, c, hq, hqc, hc⟩ := num_byte n 2 16 rfl hn0
          have HC := Lib.hid hc
          clear hc
          go_wp2_with fail
          go_region_with ((with_reducible refine (writeByte_penz T B b HT.out hTe bad _ _ (b4 n 2) _ HC.out (PenAt.drew HP.out) hl4 hz).mono ?_); rintro e w1 ⟨rfl, h1, h2⟩; have H1 := Lib.hid h1; clear h1)
          go_wp2
          go_roundw
          case rel => exact ⟨3, by omega, by go_num, by have h := H1.out; rw [List.append_assoc] at h; exact h, (hb.drew.trans h2)⟩
          case measure => simp [intOf]
        · obtain ⟨q, c, hq, hqc, hc⟩ := num_byte n 3 24 rfl hn0
          have HC := Lib.hid hc
          clear hc
          go_wp2_with fail
          go_region_with ((with_reducible refine (writeByte_penz T B b HT.out hTe bad _ _ (b4 n 3) _ HC.out (PenAt.drew HP.out) hl4 hz).mono ?_); rintro e w1 ⟨rfl, h1, h2⟩; have H1 := Lib.hid h1; clear h1)
          go_wp2
          go_roundw
          case rel => exact ⟨4, by omega, by go_num, by have h := H1.out; rw [List.append_assoc] at h; exact h, (hb.drew.trans h2)⟩
          case measure => simp [intOf]
    · have HP := Lib.hid hp
      clear hp
      go_wp2_with fail
      go_end0
      exact ⟨rfl, HP.out, hb⟩
end Go.Proofs.Ytbedamkeeongfaa
