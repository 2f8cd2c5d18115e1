/- Contract of Disk.Cut where the power is there: what is kept is kept; for a disk whose rows lie in blocks of their own. -/
import Derived.Test.YtlfeedjgimnahaaDb
namespace Go.Proofs.Ytlfeedjgimnahaa
open Go.RowKit Go.Proofs.Ytlfeedjgimnahaa.Mem
set_option linter.unusedVariables false

def flatW (l : List (Int × ByteArray)) : List Value := l.flatMap fun x => [.int .i64 x.1, .string x.2]
theorem flatW_get (l : List (Int × ByteArray)) : ∀ (k : Nat) (x : Int × ByteArray), l[k]? = some x → (flatW l)[2 * k]? = some (.int .i64 x.1) ∧ (flatW l)[2 * k + 1]? = some (.string x.2) := by
  induction l with
  | nil => intro k x h; simp at h
  | cons y l ih =>
    intro k x h
    cases k with
    | zero => simp at h; subst h; simp [flatW]
    | succ k =>
      have := ih k x (by simpa using h)
      simp only [flatW, List.flatMap_cons, Nat.mul_add, Nat.mul_one] at this ⊢
      constructor
      · rw [List.getElem?_append_right (by simp)]; simpa using this.1
      · rw [List.getElem?_append_right (by simp)]; simpa using this.2
/-- what is kept of the first k of the writes that are not safe -/
def keepN (L : List (Int × ByteArray)) (ks : List Bool) (S : List ByteArray) : Nat → List ByteArray
  | 0 => S
  | k + 1 => if ks.getD k false then (keepN L ks S k).set (L.getD k (0, .empty)).1.toNat (L.getD k (0, .empty)).2 else keepN L ks S k
theorem keepN_len (L : List (Int × ByteArray)) (ks : List Bool) (S : List ByteArray) : ∀ k, (keepN L ks S k).length = S.length
  | 0 => rfl
  | k + 1 => by simp only [keepN]; split <;> simp [keepN_len L ks S k]

/-- what the loop of Cut keeps, behind k writes -/
structure CutRel (w : World) (b sg sc : Nat) (rowB : Obj) (lv : Value) (S : List ByteArray) (L : List (Int × ByteArray)) (ks : List Bool) (kb ko kn : Nat) (k : Nat) (wr : World) : Prop where
  blk : wr.heap[b]? = some rowB
  safe : wr.ownsRow 0 9 1 (.slice (some ⟨sg, 0, none⟩) S.length sc) S.length ((keepN L ks S k).map .string)
  loose : wr.ownsRow 0 59 2 lv L.length (flatW L)
  keep : ∀ j, j < kn → wr.cell? ⟨kb, ko + j, none⟩ = some (.bool (ks.getD j false))
  out : Out [b, sg] w wr

theorem CutRel.skip {w b sg sc rowB lv S L ks kb ko kn k wr} (h : CutRel w b sg sc rowB lv S L ks kb ko kn k wr) (hk : ks.getD k false = false) (o : Obj) :
    CutRel w b sg sc rowB lv S L ks kb ko kn (k + 1) (wr.alloc o) where
  blk := by rw [Below.heap_alloc _ _ _ (lt_of_block h.blk)]; exact h.blk
  safe := by simp only [keepN, hk]; exact h.safe.alloc o
  loose := h.loose.alloc o
  keep := fun j hj => by
    have := h.keep j hj
    rw [World.cell?_alloc_past _ _ _ (World.block_lt_of_cell? wr _ this)]; exact this
  out := h.out.alloc o

theorem CutRel.set {w b sg sc rowB lv S L ks kb ko kn k wr} (h : CutRel w b sg sc rowB lv S L ks kb ko kn k wr) (hk : ks.getD k false = true) (o : Obj) (hbs : b ≠ sg) (hsl : lv.ownBlock ≠ some sg) (hkn : 0 < kn → kb ≠ sg)
    (z : Nat) (hz : (L.getD k (0, .empty)).1 = z) :
    CutRel w b sg sc rowB lv S L ks kb ko kn (k + 1) ((wr.setCell ⟨sg, z, none⟩ (.string (L.getD k (0, .empty)).2)).alloc o).drew where
  blk := by
    have h1 : (wr.setCell ⟨sg, z, none⟩ (.string (L.getD k (0, .empty)).2)).heap[b]? = some rowB := by rw [Below.heap_setCell _ _ _ _ hbs]; exact h.blk
    show ((wr.setCell ⟨sg, z, none⟩ (.string (L.getD k (0, .empty)).2)).alloc o).heap[b]? = _
    rw [Below.heap_alloc _ _ _ (lt_of_block h1)]; exact h1
  safe := by
    have h1 := (h.safe.stored z (.string (L.getD k (0, .empty)).2)).1.alloc o
    simp only [keepN, hk, if_true, hz, Int.toNat_natCast, List.map_set]
    exact h1
  loose := (ownsRow_setCell_other h.loose hsl _).alloc o
  keep := fun j hj => by
    have h0 := h.keep j hj
    have h1 : (wr.setCell ⟨sg, z, none⟩ (.string (L.getD k (0, .empty)).2)).cell? ⟨kb, ko + j, none⟩ = some (.bool (ks.getD j false)) := by
      rw [World.cell?_of_block (w := wr) (Below.heap_setCell _ _ _ _ (hkn (by omega)))]; exact h0
    show ((wr.setCell ⟨sg, z, none⟩ (.string (L.getD k (0, .empty)).2)).alloc o).cell? _ = _
    rw [World.cell?_alloc_past _ _ _ (World.block_lt_of_cell? _ _ h1)]; exact h1
  out := ((h.out.setCell (by simp) _).alloc o).drew

set_option maxHeartbeats 1000000 in
theorem cut_on (b : Nat) (fuse done : Int) (kv : Value) (sg : Nat) (sc : Nat) (lv : Value) (S : List ByteArray) (L : List (Int × ByteArray)) (ks : List Bool) (ka : Option Addr) (kb ko kc : Nat) (w : World)
    (h : w.heap[b]? = some (dkRow false fuse kv (.slice (some ⟨sg, 0, none⟩) S.length sc) lv done))
    (hs : w.ownsRow 0 9 1 (.slice (some ⟨sg, 0, none⟩) S.length sc) S.length (S.map .string))
    (hl : w.ownsRow 0 59 2 lv L.length (flatW L)) (hbs : b ≠ sg) (hsl : lv.ownBlock ≠ some sg) (hbl : lv.ownBlock ≠ some b)
    (hL : ∀ x ∈ L, 0 ≤ x.1 ∧ x.1 < S.length) (hLn : L.length ≤ 1000000)
    (hk : ∀ j, j < ks.length → w.cell? ⟨kb, ko + j, none⟩ = some (.bool (ks.getD j false))) (hkn : 0 < ks.length → kb ≠ sg) (hka : 0 < ks.length → ka = some ⟨kb, ko, none⟩) (hkl : ks.length ≤ 1000000) :
    Calls Try.prog 26 #[.pointer (some ⟨b, 0, none⟩), .slice ka ks.length kc] w fun e w' => e = .returned (.tuple #[]) ∧
      w'.heap[b]? = some (dkRow true fuse kv (.slice (some ⟨sg, 0, none⟩) S.length sc) (.slice none 0 0) done) ∧
      w'.ownsRow 0 9 1 (.slice (some ⟨sg, 0, none⟩) S.length sc) S.length ((keepN L ks S L.length).map .string) ∧ Out [b, sg] w w' := by
  obtain ⟨ao, lc, rfl, hlc, hao⟩ := own_slice hl
  obtain ⟨c0, c1, c2, c3, c4, c5, f⟩ := dk_cells h
  have H0 := Lib.hid h
  clear h
  go_enter Try.func26, Try.ntmps26
  go_wp2_with (go_at_call 12; refine (diskIsOn _ _ _ c0).mono ?_; rintro e w' ⟨rfl, rfl⟩)
  go_loopw [14] (fun i wr => ∃ k : Nat, k ≤ L.length ∧ i = .int .i64 k ∧ CutRel w b sg sc (dkRow false fuse kv (.slice (some ⟨sg, 0, none⟩) S.length sc) (.slice ao L.length lc) done) (.slice ao L.length lc) S L ks kb ko ks.length k wr) (fun i _ => L.length - (intOf i).toNat)
  case atStart => exact ⟨0, Nat.zero_le _, rfl, H0.out, hs, hl, hk, Out.refl _ _⟩
  case round =>
    obtain ⟨k, hkk, rfl, hR⟩ := hrel
    obtain ⟨hb, hs', hl', hk', hout⟩ := hR
    clear c0 c1 c2 c3 c4 c5 f hk
    obtain ⟨c0, c1, c2, c3, c4, c5, f⟩ := dk_cells hb
    have hbz : b < wr.heap.size := lt_of_block hb
    by_cases hlt : k < L.length
    · obtain ⟨g, rfl, hg⟩ := hao (by omega)
      have hx := flatW_get L k L[k] (by simp [hlt])
      have m0 : wr.cell? ⟨g, k * 2, none⟩ = some (.int .i64 L[k].1) := by rw [Nat.mul_comm, hl'.cellAt _ (by omega)]; exact hx.1
      have m1 : wr.cell? ⟨g, k * 2 + 1, none⟩ = some (.string L[k].2) := by rw [Nat.mul_comm, hl'.cellAt _ (by omega)]; exact hx.2
      have HR := Lib.hid (show CutRel w b sg sc _ _ S L ks kb ko ks.length k wr from ⟨hb, hs', hl', hk', hout⟩)
      have HB := Lib.hid hb
      have HS := Lib.hid hs'
      have HL := Lib.hid hl'
      clear hb hs' hl' hx hg hao hl hs
      have hsv := (hL L[k] (by simp)).1
      have hsv2 := (hL L[k] (by simp)).2
      obtain ⟨z, hz⟩ : ∃ z : Nat, L[k].1 = z := ⟨L[k].1.toNat, by omega⟩
      rw [hz] at m0 hsv hsv2
      have ms : wr.cell? ⟨sg, z, none⟩ = some (.string ((keepN L ks S k).getD z .empty)) := by
        rw [HS.out.cellAt _ (by omega)]; simp [keepN_len, List.getD, show z < S.length by omega]
      have mf : wr.frozen? ⟨sg, z, none⟩ = false := HS.out.frozenAt _
      have hsz : sg < wr.heap.size := World.block_lt_of_cell? wr ⟨sg, z, none⟩ ms
      have HZ := Lib.hid hz
      clear hz hL hout
      by_cases hA : k < ks.length
      · have hkn := hkn (by omega)
        obtain rfl := hka (by omega)
        have mk := hk' k hA
        have hkz : kb < wr.heap.size := World.block_lt_of_cell? wr ⟨kb, ko + k, none⟩ mk
        clear hk'
        cases hv : ks.getD k false with
        | true =>
          rw [hv] at mk
          go_wp2_with fail
          go_region
          all_goals
            go_wp2
            go_roundw
            case rel => exact ⟨k + 1, by omega, by go_num, by have h := HR.out.set hv (.cells #[.int .i64 z, .string L[k].2] 59) hbs hsl (fun _ => hkn) z (by simpa [List.getD, hlt] using HZ.out); simpa [List.getD, hlt] using h⟩
            case measure => simp [intOf]; omega
        | false =>
          rw [hv] at mk
          go_wp2
          go_roundw
          case rel => exact ⟨k + 1, by omega, by go_num, HR.out.skip hv _⟩
          case measure => simp [intOf]; omega
      · clear hk' hkn hka
        go_wp2
        go_roundw
        case rel => exact ⟨k + 1, by omega, by go_num, HR.out.skip (by simp [List.getD, hA]) _⟩
        case measure => simp [intOf]; omega
    · have hkl : k = L.length := by omega
      subst hkl
      have HR := Lib.hid (show CutRel w b sg sc _ _ S L ks kb ko ks.length L.length wr from ⟨hb, hs', hl', hk', hout⟩)
      clear hb hs' hl' hk' hout hka hkn
      go_wp2
      go_end0
      refine ⟨rfl, ?_, ?_, ?_⟩
      · exact (dk_set ((dk_set HR.out.blk).2.2.2.2.1 _)).1 true
      · exact ownsRow_setCell_other (ownsRow_setCell_other HR.out.safe (by simp [Value.ownBlock]; omega) _) (by simp [Value.ownBlock]; omega) _
      · exact (HR.out.out.setCell (by simp) _).setCell (by simp) _
end Go.Proofs.Ytlfeedjgimnahaa
