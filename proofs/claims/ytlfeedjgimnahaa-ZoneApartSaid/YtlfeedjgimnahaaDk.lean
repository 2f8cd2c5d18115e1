/- Contract of Disk.Fuse where the power is there. -/
import Derived.Test.YtlfeedjgimnahaaDj
namespace Go.Proofs.Ytlfeedjgimnahaa
open Go.RowKit Go.Proofs.Ytlfeedjgimnahaa.Mem
set_option linter.unusedVariables false

theorem infoBool : (Try.prog.info? 4).map (fun i => (i.zero, i.size, i.bytes)) = some (some (.bool false), 1, 1) := by kernel_rfl

theorem clone_bool (kb ko kc : Nat) (ks : List Bool) (w : World) (hk : ∀ j, j < ks.length → w.cell? ⟨kb, ko + j, none⟩ = some (.bool (ks.getD j false))) (hn : ks.length ≤ 1000000) :
    Calls Try.prog 30 #[.slice (some ⟨kb, ko, none⟩) ks.length kc] w fun e w' => ∃ v, e = .returned v ∧ w'.ownsRow w.heap.size 4 1 v ks.length (ks.map .bool) ∧ Below w.heap.size w w' := by
  obtain ⟨i0, hi, hz0, hz1, hz2⟩ := info_parts infoBool
  refine (Try.slices_Clone i0 (.bool false) 1 1 hi hz0 hz1 hz2 rfl (by decide) (fun _ => by kernel_rfl) kb ko ks.length kc (ks.map .bool) w (by simp) (by unfold maxLen; omega) (by omega) ?_ ?_).mono ?_
  · intro j u hj
    obtain ⟨h1, h2⟩ := List.getElem?_eq_some_iff.1 hj
    simp at h1
    rw [hk j h1]
    simp at h2
    simp [List.getD, h1, h2]
  · intro u hu; simp at hu; rcases hu with ⟨_, rfl⟩ | ⟨_, rfl⟩ <;> rfl
  · rintro e w' ⟨v, rfl, h1, _, h2⟩
    exact ⟨v, rfl, h1, h2⟩

def DS.fused (D : DS) (n : Int) (ks : List Bool) : DS := { D with fuse := max n (-1), keep := ks }

theorem fuse_dk {w : World} {b : Nat} {D : DS} {S : List Nat} (h : DkAt w b D S) (ha : D.away = false) (n : Int) (hn1 : n ≤ 9223372036854775807) (kb ko kc : Nat) (ks : List Bool) (hk : ∀ j, j < ks.length → w.cell? ⟨kb, ko + j, none⟩ = some (.bool (ks.getD j false))) (hn : ks.length ≤ 1000000) :
    Calls Try.prog 8 #[.pointer (some ⟨b, 0, none⟩), .int .i64 n, .slice (some ⟨kb, ko, none⟩) ks.length kc] w fun e w' => e = .returned (.tuple #[]) ∧ DkStep w b S (D.fused n ks) w' := by
  have hon := isOn_dk h
  have hcl := clone_bool kb ko kc ks w hk hn
  rw [ha] at hon
  have H := Lib.hid h
  have hlt := h.lt
  have HL := Lib.hid hlt
  have hn' := hn
  clear h hk hn
  go_enter Try.func8, Try.ntmps8
  go_wp2_with fail
  refine hon.mono ?_
  rintro e w0 ⟨rfl, rfl⟩
  go_wp2_with fail
  all_goals
    refine hcl.mono ?_
    rintro e w1 ⟨v, rfl, hv, hb⟩
    obtain ⟨kv, sg, sc, lv, hh, hin⟩ := (H.out.out (Out.of_below hb []) (by simp) : DkAt w1 b D S)
    obtain ⟨va, vc, rfl, hvc, hva⟩ := own_slice hv
    obtain ⟨c0, c1, c2, c3, c4, c5, f⟩ := dk_cells hh.blk
    have HV := Lib.hid hv
    have HB := Lib.hid hb
    have HH := Lib.hid hh
    have HI := Lib.hid hin
    have HVA := Lib.hid hva
    clear hv hb hh hin hva
    obtain ⟨v, hvd⟩ : ∃ v, v = Value.slice va ks.length vc := ⟨_, rfl⟩
    go_wp2
    go_end0
    rw [← hvd] at HV
    rw [← hvd]
    have g := HH.out
    have hin := HI.out
    have hbb := HB.out
    have hlt := HL.out
    have hvl : ∀ k, v.ownBlock = some k → w.heap.size ≤ k := fun k hk => (HV.out.lt k hk).1
    have hSl : ∀ k, k ∈ S → k < w.heap.size ∨ True := fun _ _ => .inr trivial
    have hsl : sg < w.heap.size := by
      obtain ⟨kv', sg', sc', lv', h', _⟩ := H.out
      have e1 := h'.blk
      have e2 := g.blk
      rw [hbb.block b hlt, e1] at e2
      simp only [dkRow, Option.some.injEq, Obj.cells.injEq, Array.mk.injEq, List.cons.injEq, Value.slice.injEq, Option.some.injEq, Addr.mk.injEq, and_true, true_and] at e2
      have := (h'.safe.lt sg' rfl).2
      omega
    have hll : ∀ k, lv.ownBlock = some k → k < w.heap.size := by
      obtain ⟨kv', sg', sc', lv', h', _⟩ := H.out
      have e1 := h'.blk
      have e2 := g.blk
      rw [hbb.block b hlt, e1] at e2
      simp only [dkRow, Option.some.injEq, Obj.cells.injEq, Array.mk.injEq, List.cons.injEq, Value.slice.injEq, Option.some.injEq, Addr.mk.injEq, and_true, true_and] at e2
      intro k hk
      have e3 : lv' = lv := e2.2.2
      rw [← e3] at hk
      exact (h'.loose.lt k hk).2
    refine ⟨rfl, S ++ v.ownBlock.toList, ⟨v, sg, sc, lv, ⟨?_, ?_, ?_, ?_, g.bs, g.bl, g.sl, ?_, ?_, ?_, ⟨g.ok.l, ?_, ?_, g.ok.d1, g.ok.d2, g.ok.ln, hn'⟩⟩, ?_⟩, ?_, ?_⟩
    · have h := (dk_set ((dk_set g.blk).2.1 (max n (-1)))).2.2.1 v
      exact h
    · exact ownsRow_setCell_other (ownsRow_setCell_other g.safe (by simp [Value.ownBlock]; exact fun e => g.bs e.symm) _) (by simp [Value.ownBlock]; exact fun e => g.bs e.symm) _
    · exact ownsRow_setCell_other (ownsRow_setCell_other g.loose g.bl _) g.bl _
    · have h0 : w1.ownsRow 0 4 1 v ks.length (ks.map .bool) := by
        have hv0 := HV.out
        refine ⟨hv0.1, ?_⟩
        rcases hv0.2 with h | ⟨g', cap', cur', h1, h2, h3⟩
        · exact .inl h
        · exact .inr ⟨g', cap', cur', h1, Nat.zero_le _, h3⟩
      have hvb : v.ownBlock ≠ some b := fun e => by have := hvl _ e; omega
      exact ownsRow_setCell_other (ownsRow_setCell_other h0 hvb _) hvb _
    · exact fun e => by have := hvl _ e; omega
    · exact fun e => by have := hvl _ e; omega
    · intro k hk e
      have := hvl _ hk
      have := hll _ e
      omega
    · show -1 ≤ max n (-1); omega
    · show max n (-1) ≤ 9223372036854775807; omega
    · exact ⟨by simp [hin.1], by simp [hin.2.1], fun k hk => by simp [hin.2.2.1 k hk], fun k hk => by simp [hk]⟩
    · intro x hx
      simp at hx
      rcases hx with hx | hx
      · exact .inl hx
      · exact .inr (hvl _ hx)
    · exact ((Out.of_below hbb S).setCell (.inl hin.1) _).setCell (.inl hin.1) _
end Go.Proofs.Ytlfeedjgimnahaa
