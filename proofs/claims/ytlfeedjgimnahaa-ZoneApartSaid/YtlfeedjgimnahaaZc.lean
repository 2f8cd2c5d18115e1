/- (*strings.Builder).WriteString and String for a builder of the call's own, out of the library's contracts; Zone.All. -/
import Derived.Test.YtlfeedjgimnahaaZb
namespace Go.Proofs
open Go.Shelf
/-- the library's contract of WriteString, at the numbers under which strings.Repeat was laid -/
theorem Try.lays166r : Go.Proofs.Lays.n166 Try.prog Try.lays105_ren := {
  mixed := Try.lays105.mixed
  f166 := Try.lays105.f166
  f240 := Try.lays105.f240
  f276 := Try.lays105.f276
  t0 := Try.lays105.t0
  a0 := Try.lays105.a0
  z0 := Try.lays105.z0
  v0 := Try.lays105.v0
  t3 := Try.lays105.t3
  a3 := Try.lays105.a3
  z3 := Try.lays105.z3
  v3 := Try.lays105.v3
  t4 := Try.lays105.t4
  a4 := Try.lays105.a4
  z4 := Try.lays105.z4
  v4 := Try.lays105.v4
  t9 := Try.lays105.t9
  a9 := Try.lays105.a9
  z9 := Try.lays105.z9
  v9 := Try.lays105.v9
  t20 := Try.lays105.t20
  a20 := Try.lays105.a20
  z20 := Try.lays105.z20
  v20 := Try.lays105.v20
  t37 := Try.lays105.t37
  a37 := Try.lays105.a37
  z37 := Try.lays105.z37
  v37 := Try.lays105.v37
  t70 := Try.lays105.t70
  a70 := Try.lays105.a70
  z70 := Try.lays105.z70
  v70 := Try.lays105.v70
  t72 := Try.lays105.t72
  a72 := Try.lays105.a72
  z72 := Try.lays105.z72
  v72 := Try.lays105.v72
  t75 := Try.lays105.t75
  a75 := Try.lays105.a75
  z75 := Try.lays105.z75
  v75 := Try.lays105.v75
  t164 := Try.lays105.t164
  a164 := Try.lays105.a164
  z164 := Try.lays105.z164
  v164 := Try.lays105.v164 }
theorem Try.writeString (B b : Nat) (bs : List Value) (s : ByteArray) (w : World) (h : Lib.IsBuilder 64 5 B b bs w) (hlen : bs.length + s.size ≤ 140737488355328) (hBw : B ≤ w.heap.size) :
    Calls Try.prog 36 #[.pointer (some ⟨b, 0, none⟩), .string s] w fun e w' => e = .returned (.tuple #[.int .i64 s.size, .nilIface]) ∧ (Lib.BuilderAt 64 5 B b (.pointer (some ⟨b, 0, none⟩)) (bs ++ Lib.strCells s) w' ∧ RowKit.Below B w w') :=
  Any.Builder_WriteString Try.lays166r Try.Builder_Extra_105 B b bs s w h hlen hBw
end Go.Proofs
namespace Go.Proofs.Ytlfeedjgimnahaa
open Go.RowKit Go.Proofs.Ytlfeedjgimnahaa.Mem
set_option linter.unusedVariables false

theorem builder_below {T e B b : Nat} {bs : List Value} {w w' : World} (h : Lib.IsBuilder T e B b bs w) (hb : Below w.heap.size w w') : Lib.IsBuilder T e B b bs w' := by
  have key : ∀ p, Lib.BuilderAt T e B b p bs w → Lib.BuilderAt T e B b p bs w' := by
    rintro p ⟨h1, v, h2, h3, h4⟩
    exact ⟨h1, v, (hb.block b (lt_of_block h2)).trans h2, own_out h3 (Out.of_below hb []) (by simp), h4⟩
  exact h.elim (fun x => .inl (key _ x)) (fun x => .inr (key _ x))

/-- the bytes of k sectors of a part -/
def joinN (V : List ByteArray) (f : Nat) : Nat → List UInt8
  | 0 => []
  | k + 1 => joinN V f k ++ (V.getD (f + k) .empty).data.toList
theorem joinN_len (V : List ByteArray) (f : Nat) (hV : ∀ x ∈ V, x.size = 32) : ∀ k, f + k ≤ V.length → (joinN V f k).length = 32 * k
  | 0, _ => rfl
  | k + 1, h => by
    have ih := joinN_len V f hV k (by omega)
    have hs : (V.getD (f + k) .empty).size = 32 := hV _ (by simp [List.getD, show f + k < V.length by omega])
    simp only [joinN, List.length_append, ih]
    have : (V.getD (f + k) .empty).data.toList.length = 32 := by rw [Array.length_toList]; exact hs
    omega
theorem byteCells_append (a b : List UInt8) : Lib.byteCells (a ++ b) = Lib.byteCells a ++ Lib.byteCells b := by simp [Lib.byteCells]

variable {B b : Nat} {w0 w : World} {Z : List (Nat × Int × Int)} {V : List ByteArray} {m : Nat}
set_option maxHeartbeats 2000000 in
theorem vall (h : OwnV B w0 b Z V m w) (zb f s : Nat) (hz : (zb, (f : Int), (s : Int)) ∈ Z) (hfs : f + s ≤ V.length) (hn : V.length ≤ 1000) (hV : ∀ x ∈ V, x.size = 32) :
    Calls Try.prog 19 #[.pointer (some ⟨zb, 0, none⟩)] w fun e w' => e = .returned (.tuple #[.string ⟨(joinN V f s).toArray⟩, .int .i64 0]) ∧ OwnV B w0 b Z V m w' := by
  have hzb := h.zn _ hz
  have c2 : w.cell? ⟨zb, 2, none⟩ = some (.int .i64 s) := by simp [World.cell?, hzb, znRow]
  have hzlt := lt_of_block hzb
  have hrd : ∀ w1, Below w.heap.size w w1 → ∀ k : Nat, k < s → Calls Try.prog 34 #[.pointer (some ⟨zb, 0, none⟩), .int .i64 k] w1 fun e w' => e = .returned (.tuple #[.string (V.getD (f + k) .empty), .int .i64 0]) ∧ Below w1.heap.size w1 w' := by
    intro w1 hb k hk
    exact vread0 (h.below hb) zb f s hz k hk hfs (by omega)
  have H := Lib.hid h
  have HR := Lib.hid hrd
  have HF := Lib.hid hfs
  have HN := Lib.hid hn
  have HV := Lib.hid hV
  have hs : (s : Int) ≤ 1000 := by omega
  have hzlt := lt_of_block hzb
  clear h hrd hzb hfs hn hV
  go_enter Try.func19, Try.ntmps19
  go_wp2
  go_loopw [14] (fun i wr => ∃ k : Nat, k ≤ s ∧ i = .int .i64 k ∧ Below w.heap.size w wr ∧ Lib.IsBuilder 64 5 w.heap.size w.heap.size (Lib.byteCells (joinN V f k)) wr) (fun i _ => s - (intOf i).toNat)
  case atStart =>
    refine ⟨0, Nat.zero_le _, rfl, (Below.refl _ _).alloc (Nat.le_refl _) _, .inl ⟨Nat.le_refl _, _, heap_alloc_new w _, World.ownsRow_nil _ _ _ _, by simp [Value.ownBlock]⟩⟩
  case round =>
    obtain ⟨k, hk, rfl, hb, hbu⟩ := hrel
    have HB := Lib.hid hb
    have HBU := Lib.hid hbu
    clear hb hbu
    by_cases hlt : k < s
    · have hrd := HR.out wr HB.out k hlt
      obtain ⟨y, hy⟩ : ∃ y, V.getD (f + k) .empty = y := ⟨_, rfl⟩
      rw [hy] at hrd
      have hys : y.size = 32 := by
        have := HF.out
        rw [← hy]; exact HV.out _ (by simp [List.getD, show f + k < V.length by omega])
      have hwr : ∀ w1, Below wr.heap.size wr w1 → Calls Try.prog 36 #[.pointer (some ⟨w.heap.size, 0, none⟩), .string y] w1 fun e w' => e = .returned (.tuple #[.int .i64 y.size, .nilIface]) ∧ Lib.IsBuilder 64 5 w.heap.size w.heap.size (Lib.byteCells (joinN V f (k + 1))) w' ∧ Below w.heap.size w w' := by
        intro w1 hb1
        have hj := joinN_len V f HV.out k (by have := HF.out; omega)
        have hN := HN.out
        have hFF := HF.out
        refine (Try.writeString w.heap.size w.heap.size (Lib.byteCells (joinN V f k)) y w1 (builder_below HBU.out hb1) ?_ (Nat.le_trans HB.out.size hb1.size)).mono ?_
        · simp only [Lib.byteCells, List.length_map, hj, hys]; omega
        · rintro e w' ⟨rfl, h1, h2⟩
          refine ⟨rfl, .inr ?_, (HB.out.trans (hb1.mono HB.out.size)).trans h2⟩
          rw [joinN, byteCells_append, hy]
          exact h1
      have HW := Lib.hid hwr
      clear hwr hy hys
      go_wp2_with (first | (go_at_call 34; refine hrd.mono ?_; rintro e w2 ⟨rfl, hb2⟩; have HB2 := Lib.hid hb2; clear hb2) | (go_at_call 36; refine (HW.out _ HB2.out).mono ?_; rintro e w3 ⟨rfl, hb3, hbel3⟩; have HB3 := Lib.hid hb3; have HBL := Lib.hid hbel3; clear hb3 hbel3))
      go_roundw
      case rel => exact ⟨k + 1, by omega, by go_num, HBL.out, HB3.out⟩
      case measure => simp [intOf]; omega
    · obtain rfl : k = s := by omega
      go_wp2_with (go_at_call 37; refine (Try.Builder_String_any w.heap.size w.heap.size (joinN V f k) wr HBU.out HB.out.size).mono ?_; rintro e w3 ⟨rfl, hb3⟩; have HB3 := Lib.hid hb3; clear hb3)
      go_ret2
      exact ⟨rfl, H.out.below (HB.out.trans HB3.out)⟩
end Go.Proofs.Ytlfeedjgimnahaa
