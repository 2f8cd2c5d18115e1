/- Contract of Disk.Write where the power is there and the fuse is not at its end. -/
import Derived.Test.YtlfeedjgimnahaaDc
import Derived.Deep.DeepMust
namespace Go.Proofs.Ytlfeedjgimnahaa
open Go.RowKit Go.Proofs.Ytlfeedjgimnahaa.Mem
set_option linter.unusedVariables false

theorem elemWrite : ElemT Try.prog 55 59 2 24 (.agg #[.int .i64 0, .string ⟨#[]⟩]) := ⟨by kernel_rfl, by kernel_rfl, rfl, by decide⟩

/-- what Write leaves: the block, the loose row -/
def WroteAt (w : World) (b n : Nat) (blkOf : Value → Obj) (lv : Value) (L' : List (Int × ByteArray)) (w' : World) : Prop :=
  ∃ g c, w'.heap[b]? = some (blkOf (.slice (some ⟨g, 0, none⟩) n c)) ∧ w'.ownsRow 0 59 2 (.slice (some ⟨g, 0, none⟩) n c) n (flatW L') ∧ (lv.ownBlock = some g ∨ w.heap.size ≤ g) ∧ Out (b :: lv.ownBlock.toList) w w'

set_option maxHeartbeats 1000000 in
theorem write_on (b : Nat) (at_ : Int) (s : ByteArray) (fuse done : Int) (kv : Value) (sg n sc : Nat) (lv : Value) (L : List (Int × ByteArray)) (w : World)
    (h : w.heap[b]? = some (dkRow false fuse kv (.slice (some ⟨sg, 0, none⟩) n sc) lv done)) (hl : w.ownsRow 0 59 2 lv L.length (flatW L)) (hbl : lv.ownBlock ≠ some b) (hLn : L.length ≤ 1000000)
    (hs : s.size = 32) (h0 : 0 ≤ at_) (hn : at_ < n) (hf : (fuse == 0) = false) (h1 : -1 ≤ fuse) (h2 : fuse ≤ 9223372036854775807) (h3 : 0 ≤ done) (h4 : done ≤ 1000000) :
    Calls Try.prog 10 #[.pointer (some ⟨b, 0, none⟩), .int .i64 at_, .string s] w fun e w' => e = .returned (.int .i64 0) ∧
      WroteAt w b (L.length + 1) (fun x => dkRow false (max (fuse - 1) (-1)) kv (.slice (some ⟨sg, 0, none⟩) n sc) x (done + 1)) lv (L ++ [(at_, s)]) w' := by
  have hc := check_ok b at_ false fuse done kv lv (some ⟨sg, 0, none⟩) n sc w h
  rw [if_neg (by omega)] at hc
  have hu := use_on b false fuse done kv (.slice (some ⟨sg, 0, none⟩) n sc) lv w h hf h1 h2 h3 h4
  have HS := Lib.hid hs
  have hs' : ((s.size : Int) == 32) = true := by simp [hs]
  have HH := Lib.hid h
  have HL := Lib.hid hl
  clear hs hf h hl
  go_enter Try.func10, Try.ntmps10
  go_wp2_with (first
    | (go_at_call 32; refine hc.mono ?_; rintro e w' ⟨rfl, rfl⟩)
    | (go_at_call 31; refine hu.mono ?_; rintro e w1 ⟨rfl, hb1, ho1⟩; obtain ⟨c0, c1, c2, c3, c4, c5, f⟩ := dk_cells hb1; have HB := Lib.hid hb1; have HO := Lib.hid ho1; clear hb1 ho1)
    | (at_builtin; refine wpList_app rfl _ _ 55 rfl elemWrite 0 lv L.length (flatW L) rfl (own_out HL.out HO.out (by intro k hk; simp; rintro rfl; exact hbl hk)) 1 1 rfl rfl rfl (by decide) (by omega) (by decide) (Nat.zero_le _) ?_; intro g cap w2 hown2 hgrow2 hg2
       have HB2 := Lib.hid ((hgrow2.block b (lt_of_block HB.out) (fun e => hbl e.symm)).trans HB.out)
       obtain ⟨d0, d1, d2, d3, d4, d5, f2⟩ := dk_cells HB2.out
       have HW := Lib.hid hown2
       have HG := Lib.hid hgrow2
       clear hown2 hgrow2))
  all_goals
    go_ret
    refine ⟨rfl, g, cap, (dk_set HB2.out).2.2.2.2.1 _, ?_, ?_, ?_⟩
    · refine ownsRow_setCell_other (by simpa [flatW] using HW.out) ?_ _
      intro e
      simp only [Value.ownBlock, Option.some.injEq] at e
      subst e
      rcases hg2 with h | h
      · exact hbl h
      · have := lt_of_block HB.out; omega
    · have := HO.out.size
      rcases hg2 with h | h
      · exact .inl h
      · exact .inr (by omega)
    · refine (Out.grown (HO.out.mono (by simp)) HG.out ?_).setCell (by simp) _
      intro k hk; simp [hk]
end Go.Proofs.Ytlfeedjgimnahaa
