/- Contracts of the pen's Text and Bytes, and of the writer's methods over it. -/
import Derived.Test.YtbedamkeeongfaaOc
import Derived.Lib.ConvBytes
namespace Go.Proofs.Ytbedamkeeongfaa
open Go.RowKit Go.Proofs.Ytbedamkeeongfaa.Mem
set_option linter.unusedVariables false

theorem cell_alloc_drew (w : World) (c : Array Value) (t : Nat) (v : Value) (h : c[0]? = some v) : (w.alloc (.cells c t)).drew.cell? ⟨w.heap.size, 0, none⟩ = some v := (World.cell?_alloc_at _ _ _ _ rfl).trans h

theorem PenAt.below {T B b : Nat} {bad : Bool} {l : List UInt8} {w w' : World} (h : PenAt T B b bad l w) (hb : Below w.heap.size w w') : PenAt T B b bad l w' := by
  obtain ⟨hB, p, v, hp, h1, h2, h3⟩ := h
  exact ⟨hB, p, v, hp, (hb.block b (lt_of_block h1)).trans h1, own_out h2 (Out.of_below hb []) (by simp), h3⟩
theorem below_bytes (w : World) (e : Nat) (s : ByteArray) : Below w.heap.size w (Lib.bytesWorld w e s) :=
  ⟨rfl, rfl, rfl, by rw [Lib.bytesWorld_size]; omega, fun k hk => Lib.bytesWorld_at_old w e s k hk⟩

theorem drew_alloc_le {B : Nat} (w : World) (o : Obj) (h : B ≤ w.heap.size) : B ≤ (w.alloc o).drew.heap.size := by simp; omega

/-- a text's bytes -/
def txB (s : ByteArray) : List UInt8 := le4 s.size ++ s.data.toList

set_option maxRecDepth 100000 in
set_option maxHeartbeats 1000000 in
theorem penText (T B b : Nat) (hT : PenT T) (hTe : T ≠ 5) (bad : Bool) (l : List UInt8) (s : ByteArray) (g0 o0 c0 : Nat) (w : World) (h : PenAt T B b bad l w) (hlen : (l.length : Int) + s.size ≤ 800000) (hBw : B ≤ w.heap.size)
    (hm : w.cell? ⟨g0, o0, none⟩ = some (.string s)) (hgb : g0 ≠ b) :
    Calls Try.prog 48 #[.pointer (some ⟨b, 0, none⟩), .slice (some ⟨g0, o0, none⟩) 1 c0] w fun e w' => e = .returned (.tuple #[]) ∧ PenAt T B b bad (l ++ txB s) w' ∧ Below B w w' := by
  have HT := Lib.hid hT
  have H := Lib.hid h
  have hbl := h.lt
  clear h hT
  go_enter Try.func48, Try.ntmps48
  go_wp2_with fail
  go_loopw [8] (fun i wr => ∃ k : Nat, k ≤ 1 ∧ i = .int .i64 k ∧ ((k = 0 ∧ w = wr) ∨ (k = 1 ∧ PenAt T B b bad (l ++ txB s) wr ∧ Below B w wr))) (fun i _ => 1 - (intOf i).toNat)
  case atStart => exact ⟨0, by omega, rfl, .inl ⟨rfl, rfl⟩⟩
  case round =>
    obtain ⟨k, hk, rfl, hR⟩ := hrel
    rcases hR with ⟨rfl, rfl⟩ | ⟨rfl, hp, hb⟩
    · go_wp2_with (go_at_call 47; refine (penNum T B b HT.out hTe bad l s.size w.heap.size 0 1 _ (PenAt.alloc H.out _) (by omega) (by simp; omega) ⟨by omega, by omega⟩ (World.cell?_alloc_at _ _ _ _ rfl) (by omega)).mono ?_)
      rintro e w1 ⟨rfl, h1, h2⟩
      have H1 := Lib.hid h1
      clear h1
      go_wp2_with fail
      rw [Lib.run_convert_string_bytes w1 9 51 5 s Try.underlying9 Try.underlying51 Try.underlying5]
      simp only [Result.andThen]
      rw [Oper.upon_value]
      have hz : B ≤ (Lib.bytesWorld w1 5 s).heap.size := by have := h2.size; simp at this; rw [Lib.bytesWorld_size]; omega
      have hsz := h2.size
      simp at hsz
      go_wp2_with (go_at_call 27; refine (penByte T B b HT.out hTe bad _ s.data.toList w1.heap.size 0 _ _ (PenAt.below H1.out (below_bytes _ _ _)) (by simp [le4]; have := s.size_data; omega) hz ?c1 (by omega)).mono ?_)
      case c1 =>
        intro j u hj
        have hjl : j < s.data.toList.length := by rw [← Lib.byteCells_length]; exact (List.getElem?_eq_some_iff.1 hj).1
        have hjs : j < s.size := by have := s.size_data; simp at hjl; omega
        rw [Nat.zero_add, Lib.bytesWorld_cell w1 _ s j hjs]
        simp [Lib.byteCells, List.getElem?_eq_getElem hjl] at hj
        rw [← hj, List.getD_eq_getElem?_getD, List.getElem?_eq_getElem hjl]
        simp
      rintro e w2 ⟨rfl, h3, h4⟩
      have H3 := Lib.hid h3
      clear h3
      go_wp2
      exact ⟨⟨1, by omega, rfl, .inr ⟨rfl, by have h := H3.out; rw [List.append_assoc] at h; exact h, (((Below.refl B w).alloc hBw _).trans h2).trans ((below_bytes w1 _ s).mono (by omega) |>.trans h4)⟩⟩, by decide⟩
    · have HP := Lib.hid hp
      clear hp
      go_wp2_with fail
      go_end0
      exact ⟨rfl, HP.out, hb⟩
  
set_option maxRecDepth 100000 in
theorem penBytes (T B b : Nat) (bad : Bool) (l : List UInt8) (w : World) (h : PenAt T B b bad l w) (h0 : l ≠ []) :
    Calls Try.prog 29 #[.pointer (some ⟨b, 0, none⟩)] w fun e w' => e = .returned (.string ⟨l.toArray⟩) ∧ Below B w w' := by
  have H := Lib.hid h
  clear h
  go_enter Try.func29, Try.ntmps29
  go_wp2_with (go_at_call 52; refine (string_pen T B b bad l _ H.out h0).mono ?_; rintro e w1 ⟨rfl, h2⟩)
  go_ret
  exact ⟨rfl, h2⟩

set_option maxRecDepth 100000 in
theorem writer_num (T B b : Nat) (hT : PenT T) (hTe : T ≠ 5) (bad : Bool) (l : List UInt8) (n : Int) (g0 o0 : Nat) (w : World) (h : PenAt T B b bad l w) (hlen : (l.length : Int) ≤ 900000) (hBw : B ≤ w.heap.size)
    (hn : -2147483648 ≤ n ∧ n < 2147483648) (hm : w.cell? ⟨g0, o0, none⟩ = some (.int .i64 n)) :
    Calls Try.prog 83 #[.pointer (some ⟨b, 0, none⟩), .pointer (some ⟨g0, o0, none⟩)] w fun e w' => e = .returned (.tuple #[]) ∧ PenAt T B b bad (l ++ le4 (n + 2147483648)) w' ∧ Below B w w' := by
  have hbl := h.lt
  have HT := Lib.hid hT
  have H := Lib.hid h
  have hwr : IntKind.i64.wrap (n + 2147483648) = n + 2147483648 := IntWalk.i64_in _ (by omega)
  have hz : B ≤ (w.alloc (.cells #[.int .i64 (n + 2147483648)] 3)).drew.heap.size := by simp; omega
  have hm' : w.drew.cell? ⟨g0, o0, none⟩ = some (.int .i64 n) := hm
  clear h hT
  go_enter Try.func83, Try.ntmps83
  go_wp2_with fail
  go_region_with ((with_reducible refine (penNum T B b HT.out hTe bad l (n + 2147483648) _ _ _ _ (PenAt.drew (PenAt.alloc H.out _)) hlen hz ⟨by omega, by omega⟩ (cell_alloc_drew _ _ _ _ rfl) (by omega)).mono ?_); rintro e w1 ⟨rfl, h1, h2⟩; have H1 := Lib.hid h1; clear h1)
  all_goals
    go_wp2
    go_end0
    exact ⟨rfl, H1.out, ((Below.refl B w).alloc hBw _).drew.trans h2⟩

set_option maxRecDepth 100000 in
theorem writer_flag (T B b : Nat) (hT : PenT T) (hTe : T ≠ 5) (bad : Bool) (l : List UInt8) (n : Bool) (g0 o0 : Nat) (w : World) (h : PenAt T B b bad l w) (hlen : (l.length : Int) ≤ 900000) (hBw : B ≤ w.heap.size)
    (hm : w.cell? ⟨g0, o0, none⟩ = some (.bool n)) :
    Calls Try.prog 82 #[.pointer (some ⟨b, 0, none⟩), .pointer (some ⟨g0, o0, none⟩)] w fun e w' => e = .returned (.tuple #[]) ∧ PenAt T B b bad (l ++ [if n then 1 else 0]) w' ∧ Below B w w' := by
  have hbl := h.lt
  have HT := Lib.hid hT
  have H := Lib.hid h
  clear h hT
  cases n
  · go_enter Try.func82, Try.ntmps82
    go_wp2_with (go_at_call 27; refine (penByte T B b HT.out hTe bad _ [0] w.heap.size 0 1 _ (PenAt.alloc H.out _) (by simp; omega) (by simp; omega) (by intro j u hj; match j, hj with | 0, hj => simp [Lib.byteCells] at hj; subst hj; exact World.cell?_alloc_at _ _ _ _ rfl) (by omega)).mono ?_; rintro e w1 ⟨rfl, h1, h2⟩; have H1 := Lib.hid h1; clear h1)
    go_end0
    exact ⟨rfl, H1.out, ((Below.refl B w).alloc hBw _).trans h2⟩
  · go_enter Try.func82, Try.ntmps82
    go_wp2_with (go_at_call 27; refine (penByte T B b HT.out hTe bad _ [1] w.heap.size 0 1 _ (PenAt.alloc H.out _) (by simp; omega) (by simp; omega) (by intro j u hj; match j, hj with | 0, hj => simp [Lib.byteCells] at hj; subst hj; exact World.cell?_alloc_at _ _ _ _ rfl) (by omega)).mono ?_; rintro e w1 ⟨rfl, h1, h2⟩; have H1 := Lib.hid h1; clear h1)
    go_end0
    exact ⟨rfl, H1.out, ((Below.refl B w).alloc hBw _).trans h2⟩

set_option maxRecDepth 100000 in
theorem writer_text (T B b : Nat) (hT : PenT T) (hTe : T ≠ 5) (bad : Bool) (l : List UInt8) (s : ByteArray) (g0 o0 : Nat) (w : World) (h : PenAt T B b bad l w) (hlen : (l.length : Int) + s.size ≤ 800000) (hBw : B ≤ w.heap.size)
    (hm : w.cell? ⟨g0, o0, none⟩ = some (.string s)) :
    Calls Try.prog 85 #[.pointer (some ⟨b, 0, none⟩), .pointer (some ⟨g0, o0, none⟩)] w fun e w' => e = .returned (.tuple #[]) ∧ PenAt T B b bad (l ++ txB s) w' ∧ Below B w w' := by
  have hbl := h.lt
  have HT := Lib.hid hT
  have H := Lib.hid h
  have hm' : w.drew.cell? ⟨g0, o0, none⟩ = some (.string s) := hm
  clear h hT
  go_enter Try.func85, Try.ntmps85
  go_wp2_with fail
  go_region_with ((with_reducible refine (penText T B b HT.out hTe bad l s _ _ _ _ (PenAt.drew (PenAt.alloc H.out _)) hlen (drew_alloc_le _ _ hBw) (cell_alloc_drew _ _ _ _ rfl) (by omega)).mono ?_); rintro e w1 ⟨rfl, h1, h2⟩; have H1 := Lib.hid h1; clear h1)
  all_goals
    go_wp2
    go_end0
    exact ⟨rfl, H1.out, ((Below.refl B w).alloc hBw _).drew.trans h2⟩

/-- a row's bytes -/
def rowB : List Int → List UInt8
  | [] => []
  | n :: r => le4 (n + 2147483648) ++ rowB r
theorem rowB_len : ∀ l, (rowB l).length = 4 * l.length
  | [] => rfl
  | n :: r => by simp [rowB, rowB_len r, le4]; omega
theorem rowB_snoc : ∀ (l : List Int) (n : Int), rowB (l ++ [n]) = rowB l ++ le4 (n + 2147483648)
  | [], n => by simp [rowB]
  | m :: r, n => by simp [rowB, rowB_snoc r n]

set_option maxRecDepth 100000 in
set_option maxHeartbeats 1000000 in
theorem writer_row (T B b : Nat) (hT : PenT T) (hTe : T ≠ 5) (bad : Bool) (l : List UInt8) (xs : List Int) (g0 o0 : Nat) (ao : Option Addr) (cap ga oa : Nat) (w : World) (h : PenAt T B b bad l w) (hlen : (l.length : Int) ≤ 400000) (hx : (xs.length : Int) ≤ 1000) (hBw : B ≤ w.heap.size)
    (hg0 : g0 < B) (hm : w.cell? ⟨g0, o0, none⟩ = some (.slice ao xs.length cap)) (hao : 0 < xs.length → ao = some ⟨ga, oa, none⟩ ∧ ga < B) (hc : ∀ j, j < xs.length → w.cell? ⟨ga, oa + j, none⟩ = some (.int .i64 (xs.getD j 0)))
    (hin : ∀ n ∈ xs, -2147483648 ≤ n ∧ n < 2147483648) :
    Calls Try.prog 84 #[.pointer (some ⟨b, 0, none⟩), .pointer (some ⟨g0, o0, none⟩)] w fun e w' => e = .returned (.tuple #[]) ∧ PenAt T B b bad (l ++ (le4 xs.length ++ rowB xs)) w' ∧ Below B w w' := by
  have hbl := h.lt
  have HT := Lib.hid hT
  have H := Lib.hid h
  have HC := Lib.hid hc
  have HI := Lib.hid hin
  have hm' : w.drew.cell? ⟨g0, o0, none⟩ = some (.slice ao xs.length cap) := hm
  have hgl := World.block_lt_of_cell? w ⟨g0, o0, none⟩ hm
  clear h hT hc hin
  go_enter Try.func84, Try.ntmps84
  go_wp2_with fail
  go_region_with ((with_reducible refine (penNum T B b HT.out hTe bad l _ _ _ _ _ (PenAt.drew (PenAt.alloc H.out _)) (by omega) (drew_alloc_le _ _ hBw) ⟨by omega, by omega⟩ (cell_alloc_drew _ _ _ _ rfl) (by omega)).mono ?_); rintro e w1 ⟨rfl, h1, h2⟩; have H1 := Lib.hid h1; clear h1)
  all_goals
    have hb1 : Below B w w1 := ((Below.refl B w).alloc hBw _).drew.trans h2
    have m1 : w1.cell? ⟨g0, o0, none⟩ = some (.slice ao xs.length cap) := by
      rw [World.cell?_of_block (w := w) (hb1.block g0 hg0)]; exact hm
    go_wp2_with fail
    go_loopw [19] (fun i wr => ∃ k : Nat, k ≤ xs.length ∧ i = .int .i64 k ∧ PenAt T B b bad (l ++ (le4 xs.length ++ rowB (xs.take k))) wr ∧ Below B w wr) (fun i _ => xs.length - (intOf i).toNat)
    case atStart => exact ⟨0, by omega, rfl, by simpa [rowB] using H1.out, hb1⟩
    case round =>
      obtain ⟨k, hk, rfl, hp, hb⟩ := hrel
      have HP := Lib.hid hp
      have hbr := hp.lt
      have hsz := hb.size
      clear hp
      by_cases hlt : k < xs.length
      · obtain ⟨rfl, hga⟩ := hao (by omega)
        obtain ⟨n, hn⟩ : ∃ n, xs.getD k 0 = n := ⟨_, rfl⟩
        have hnx : xs[k]? = some n := by rw [List.getElem?_eq_getElem hlt]; rw [List.getD_eq_getElem?_getD, List.getElem?_eq_getElem hlt] at hn; simpa using hn
        have hnr := HI.out n (List.mem_of_getElem? hnx)
        have mk : wr.cell? ⟨ga, oa + k, none⟩ = some (.int .i64 n) := by
          rw [World.cell?_of_block (w := w) (hb.block ga hga), HC.out k hlt, hn]
        have HN := Lib.hid hnx
        clear hnx hn
        have hl5 : ((l ++ (le4 xs.length ++ rowB (xs.take k))).length : Int) ≤ 900000 := by
          simp only [List.length_append, rowB_len, List.length_take]
          have : (le4 (xs.length : Int)).length = 4 := rfl
          omega
        have hz5 : B ≤ (wr.alloc (.cells #[.int .i64 n] 3)).heap.size := by simp; omega
        go_wp2_with (go_at_call 83; refine (writer_num T B b HT.out hTe bad _ n wr.heap.size 0 _ (PenAt.alloc HP.out _) hl5 hz5 hnr (World.cell?_alloc_at _ _ _ _ rfl)).mono ?_; rintro e w2 ⟨rfl, h3, h4⟩; have H3 := Lib.hid h3; clear h3)
        go_roundw
        case rel => exact ⟨k + 1, by omega, by go_num, by have h := H3.out; rw [List.append_assoc, List.append_assoc, ← rowB_snoc] at h; rw [List.take_add_one, HN.out]; exact h, hb.trans (((Below.refl B wr).alloc (by omega) _).trans h4)⟩
        case measure => simp [intOf]; omega
      · obtain rfl : k = xs.length := by omega
        go_wp2
        go_end0
        exact ⟨rfl, by have h := HP.out; rw [List.take_length] at h; exact h, hb⟩
end Go.Proofs.Ytbedamkeeongfaa
