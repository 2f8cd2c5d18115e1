/- Contract of disk.Of: the sectors of an image of at least 32 bytes and fewer than 131072. -/
import Derived.Test.YtlfeedjgimnahaaDh
import Derived.StillTailTactics
import Derived.Deep.RegionLaw
import Derived.Deep.CutRange
namespace Go.Proofs.Ytlfeedjgimnahaa
open Go.RowKit Go.Proofs.Ytlfeedjgimnahaa.Mem
set_option linter.unusedVariables false

theorem elemStr : ElemT Try.prog 54 9 1 16 (.string ⟨#[]⟩) := ⟨by kernel_rfl, by kernel_rfl, rfl, by decide⟩

theorem extract_size (s : ByteArray) (h : 32 ≤ s.size) : (s.extract 32 s.size).size = s.size - 32 := by simp [ByteArray.size_extract]
def chunks (s : ByteArray) : List ByteArray := if h : 32 ≤ s.size then s.extract 0 32 :: chunks (s.extract 32 s.size) else []
termination_by s.size
decreasing_by have := extract_size s h; omega

/-- what the loop of Of keeps -/
structure OfRel (B : Nat) (w : World) (b : Nat) (acc : List ByteArray) (sv : Value) (wr : World) : Prop where
  blk : wr.heap[b]? = some (dkRow false (-1) (.slice none 0 0) sv (.slice none 0 0) 0)
  own : wr.ownsRow (b + 1) 9 1 sv acc.length (acc.map .string)
  bel : Below B w wr

theorem OfRel.drew {B w b acc sv wr} (h : OfRel B w b acc sv wr) : OfRel B w b acc sv wr.drew := ⟨h.blk, h.own.drew, h.bel.drew⟩

/-- one sector more -/
theorem OfRel.app {w : World} {acc : List ByteArray} {sv : Value} {wr w2 : World} {g c : Nat} {x : ByteArray} (h : OfRel w.heap.size w w.heap.size acc sv wr)
    (h1 : w2.ownsRow (w.heap.size + 1) 9 1 (.slice (some ⟨g, 0, none⟩) (acc.length + 1) c) (acc.length + 1) (acc.map .string ++ [.string x])) (h2 : wr.grownBy w2 sv.ownBlock) :
    OfRel w.heap.size w w.heap.size (acc ++ [x]) (.slice (some ⟨g, 0, none⟩) (acc.length + 1) c) (w2.setCell ⟨w.heap.size, 3, none⟩ (.slice (some ⟨g, 0, none⟩) (acc.length + 1) c)) where
  blk := by
    have hlt : ∀ k, sv.ownBlock = some k → w.heap.size + 1 ≤ k := fun k hk => (h.own.lt k hk).1
    have hb := (h2.block w.heap.size (lt_of_block h.blk) (fun e => by have := hlt _ e.symm; omega)).trans h.blk
    exact (dk_set hb).2.2.2.1 _
  own := by
    have hg := (h1.lt g rfl).1
    have := ownsRow_setCell_other h1 (a := ⟨w.heap.size, 3, none⟩) (by simp [Value.ownBlock]; omega) (.slice (some ⟨g, 0, none⟩) (acc.length + 1) c)
    simpa using this
  bel := (h.bel.grown h2 (by have := lt_of_block h.blk; omega) (fun k hk => by have := (h.own.lt k hk).1; omega)).setCell (Nat.le_refl _) _

set_option maxHeartbeats 1000000 in
theorem of_dk (s : ByteArray) (w : World) (hs : s.size < 131072) (h32 : 32 ≤ s.size) :
    Calls Try.prog 15 #[.string s] w fun e w' => e = .returned (.pointer (some ⟨w.heap.size, 0, none⟩)) ∧
      ∃ S, DkAt w' w.heap.size ⟨false, -1, [], chunks s, [], 0⟩ S ∧ (∀ x ∈ S, w.heap.size ≤ x) ∧ Below w.heap.size w w' := by
  go_enter Try.func15, Try.ntmps15
  go_wp2
  go_loopw [0] (fun i wr => ∃ (r : ByteArray) (acc : List ByteArray) (sv : Value), i = .string r ∧ acc.length * 32 + r.size = s.size ∧ acc ++ chunks r = chunks s ∧ OfRel w.heap.size w w.heap.size acc sv wr) (fun i _ => match i with | .string r => r.size | _ => 0)
  case atStart =>
    refine ⟨s, [], _, rfl, by simp, by simp, ⟨heap_alloc_new _ _, World.ownsRow_nil _ _ _ _, (Below.refl _ _).alloc (Nat.le_refl _) _⟩⟩
  case round =>
    obtain ⟨r, acc, sv, rfl, hrs, hch, hR⟩ := hrel
    have HC := Lib.hid hch
    have HR := Lib.hid hR
    have HS := Lib.hid hrs
    obtain ⟨c0, c1, c2, c3, c4, c5, f⟩ := dk_cells hR.blk
    have hbz : w.heap.size < wr.heap.size := lt_of_block hR.blk
    obtain ⟨sa, sc, rfl, hsc, hsa⟩ := own_slice hR.own
    have hr : r.size < 131072 := by omega
    have ha : acc.length < 4096 ∨ r.size < 32 := by omega
    clear hch hR hsa hrs
    by_cases h1 : 32 ≤ r.size
    · have h2 : (acc.length : Int) < 4096 := by omega
      have h3 : (r.size : Int) < 131072 := by omega
      have h4 : (32 : Int) ≤ r.size := by omega
      clear ha hr
      go_wp2_with fail
      have hx2 : ∀ (x : Value) j u, [x][j]? = some u → (wr.alloc (.cells #[x] 9)).drew.cell? ((⟨wr.heap.size, 0, none⟩ : Addr).add j) = some u := by
        intro x j u hj
        match j, hj with
        | 0, hj => simp at hj; subst hj; show (wr.alloc _).cell? _ = _; rw [Addr.add_lit, World.cell?_alloc_at _ _ _ _ rfl]; rfl
      have hx4 : ∀ o, w.heap.size + 1 ≤ (wr.alloc o).drew.heap.size := by intro o; show _ ≤ (wr.alloc o).heap.size; simp; omega
      have hx1 : ∀ o, (wr.alloc o).drew.ownsRow (w.heap.size + 1) 9 1 (.slice sa acc.length sc) acc.length (acc.map .string) := fun o => (HR.out.own.alloc o).drew
      have hx5 : ∀ o w2, (wr.alloc o).drew.grownBy w2 (Value.slice sa acc.length sc).ownBlock → wr.grownBy w2 (Value.slice sa acc.length sc).ownBlock := fun o w2 h => grownBy_trans (World.grownBy_alloc wr o _) ⟨h.os, h.tape, h.output, h.size, h.block⟩
      have X1 := Lib.hid hx1; have X2 := Lib.hid hx2; have X4 := Lib.hid hx4; have X5 := Lib.hid hx5
      clear hx1 hx2 hx4 hx5
      go_region_law (refine step_app rfl _ _ 54 rfl elemStr (w.heap.size + 1) (.slice sa acc.length sc) acc.length (acc.map .string) rfl (X1.out _) _ 1 1 [.string (r.extract 0 32)] rfl rfl (X2.out _) rfl (by decide) (by omega) (by decide) (X4.out _) ?_; intro g cap w2 hown2 hgrow2 hg2; obtain ⟨d0, d1, d2, d3, d4, d5, f2⟩ := dk_cells (((X5.out _ _ hgrow2).block w.heap.size (lt_of_block HR.out.blk) (fun e => by have := (HR.out.own.lt _ e.symm).1; omega)).trans HR.out.blk); have HW := Lib.hid hown2; have HG := Lib.hid (X5.out _ _ hgrow2); clear hown2 hgrow2)
      all_goals
        go_wp2
        go_roundw
        case rel =>
          refine ⟨_, acc ++ [r.extract 0 32], _, rfl, ?_, ?_, HR.out.app HW.out HG.out⟩
          · have := HS.out; simp [ByteArray.size_extract]; omega
          · rw [← HC.out, List.append_assoc]
            conv => rhs; rw [chunks, dif_pos (by omega)]
            rfl
        case measure => simp [ByteArray.size_extract]; omega
    · have h4 : (r.size : Int) < 32 := by omega
      clear ha hr
      go_wp2
      go_ret
      have hcc : acc = chunks s := by
        have := HC.out
        rw [chunks, dif_neg (by omega), List.append_nil] at this
        exact this
      have ho := HR.out
      have hs2 := HS.out
      have hz : 0 < acc.length := by omega
      rcases ho.own.2 with ⟨_, h0⟩ | ⟨g, cap, cur, hv, hg, _⟩
      · omega
      · simp only [Value.slice.injEq] at hv
        obtain ⟨rfl, _, rfl⟩ := hv
        subst hcc
        have hn := World.ownsRow_nil wr 0 4 1
        have hn2 := World.ownsRow_nil wr 0 59 2
        refine ⟨rfl, [w.heap.size, g], ⟨.slice none 0 0, g, sc, .slice none 0 0, ⟨ho.blk, ?_, hn2, hn, by omega, by simp [Value.ownBlock], by simp [Value.ownBlock], by simp [Value.ownBlock], by simp [Value.ownBlock], by simp [Value.ownBlock],
          ⟨(fun x hx => by cases hx), by show (-1 : Int) ≤ -1; decide, by show (-1 : Int) ≤ 9223372036854775807; decide, by show (0 : Int) ≤ 0; decide, by show (0 : Int) ≤ 1000000; decide, by simp, by simp⟩⟩, by simp, by simp, by simp [Value.ownBlock], by simp [Value.ownBlock]⟩, ?_, ho.bel⟩
        · exact ⟨ho.own.1, by
            rcases ho.own.2 with ⟨h, _⟩ | ⟨g', cap', cur', h1, h2, h3⟩
            · simp at h
            · exact .inr ⟨g', cap', cur', h1, Nat.zero_le _, h3⟩⟩
        · intro x hx; simp at hx; omega
end Go.Proofs.Ytlfeedjgimnahaa
