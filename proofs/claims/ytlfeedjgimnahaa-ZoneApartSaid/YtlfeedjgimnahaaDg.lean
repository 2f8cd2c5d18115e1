/- Contract of Disk.Sync over the state of a disk. -/
import Derived.Test.YtlfeedjgimnahaaDf
namespace Go.Proofs.Ytlfeedjgimnahaa
open Go.RowKit Go.Proofs.Ytlfeedjgimnahaa.Mem
set_option linter.unusedVariables false

/-- behind a sync -/
def DS.synced (D : DS) : DS := { D.spent with safe := keepN D.loose (List.replicate D.loose.length true) D.safe D.loose.length, loose := [] }

theorem DkStep.blk {w w' : World} {b : Nat} {S : List Nat} {D : DS} (h : DkStep w b S D w') : ∃ kv sg sc lv S', DkW w' b D kv sg sc lv ∧ DkIn b kv sg lv S' ∧ (∀ x ∈ S', x ∈ S ∨ w.heap.size ≤ x) ∧ Out S w w' := by
  obtain ⟨S', ⟨kv, sg, sc, lv, h1, h2⟩, h3, h4⟩ := h
  exact ⟨kv, sg, sc, lv, S', h1, h2, h3, h4⟩

set_option maxHeartbeats 1000000 in
theorem sync_dk {w : World} {b : Nat} {D : DS} {S : List Nat} (h : DkAt w b D S) (ha : D.away = false) (hf : D.fuse ≠ 0) (hd : D.done < 1000000) :
    Calls Try.prog 9 #[.pointer (some ⟨b, 0, none⟩)] w fun e w' => e = .returned (.int .i64 0) ∧ DkStep w b S D.synced w' := by
  have hu := use_spent h ha hf hd
  have c0 := h.reads.c0
  have hok : D.Ok := by obtain ⟨_, _, _, _, h, _⟩ := h; exact h.ok
  rw [ha] at c0
  clear h hf
  go_enter Try.func9, Try.ntmps9
  go_wp2_with fail
  refine hu.mono ?_
  rintro e w1 ⟨rfl, hs⟩
  obtain ⟨kv, sg, sc, lv, S', h, hin, hS, ho⟩ := hs.blk
  obtain ⟨L, hLd⟩ : ∃ L, L = D.loose := ⟨_, rfl⟩
  obtain ⟨T, hTd⟩ : ∃ T, T = D.safe := ⟨_, rfl⟩
  have h0 := h.safe; have h1 := h.loose; have h2 := h.blk; have h3 := h.ok.l
  simp only [DS.spent, ← hLd, ← hTd, ha] at h0 h1 h2 h3
  obtain ⟨ao, lc, rfl, hlc, hao⟩ := own_slice h1
  have hLn : L.length ≤ 1000000 := by rw [hLd]; exact hok.ln
  have HH := Lib.hid h; have HIN := Lib.hid hin; have HS := Lib.hid hS; have HO := Lib.hid ho; have HT := Lib.hid hTd; have HL := Lib.hid hLd
  obtain ⟨c0, c1, c2, c3, c4, c5, f⟩ := dk_cells h2
  have H1 := Lib.hid h1; have H2 := Lib.hid h2; have H0 := Lib.hid h0; have H3 := Lib.hid h3; have HA := Lib.hid hao
  clear hs h hin hS ho hTd hLd h0 h1 h2 h3 hao hu hok
  go_wp2
  go_loopw [25] (fun i wr => ∃ k : Nat, k ≤ L.length ∧ i = .int .i64 k ∧ CutRel w1 b sg sc (dkRow false (max (D.fuse - 1) (-1)) kv (.slice (some ⟨sg, 0, none⟩) T.length sc) (.slice ao L.length lc) (D.done + 1)) (.slice ao L.length lc) T L (List.replicate L.length true) 0 0 0 k wr) (fun i _ => L.length - (intOf i).toNat)
  case atStart => exact ⟨0, Nat.zero_le _, rfl, H2.out, H0.out, H1.out, fun j hj => absurd hj (by omega), Out.refl _ _⟩
  case round =>
    obtain ⟨k, hkk, rfl, hR⟩ := hrel
    obtain ⟨hb, hs', hl', hk', hout⟩ := hR
    clear c0 c1 c2 c3 c4 c5 f hk'
    have HR := Lib.hid (show CutRel w1 b sg sc _ _ T L (List.replicate L.length true) 0 0 0 k wr from ⟨hb, hs', hl', fun j hj => absurd hj (by omega), hout⟩)
    obtain ⟨c0, c1, c2, c3, c4, c5, f⟩ := dk_cells hb
    have hbz : b < wr.heap.size := lt_of_block hb
    by_cases hlt : k < L.length
    · obtain ⟨g, rfl, hg⟩ := HA.out (by omega)
      have hx := flatW_get L k L[k] (by simp [hlt])
      have m0 : wr.cell? ⟨g, k * 2, none⟩ = some (.int .i64 L[k].1) := by rw [Nat.mul_comm, hl'.cellAt _ (by omega)]; exact hx.1
      have m1 : wr.cell? ⟨g, k * 2 + 1, none⟩ = some (.string L[k].2) := by rw [Nat.mul_comm, hl'.cellAt _ (by omega)]; exact hx.2
      have hsv := (H3.out L[k] (by simp)).1
      have hsv2 := (H3.out L[k] (by simp)).2
      obtain ⟨z, hz⟩ : ∃ z : Nat, L[k].1 = z := ⟨L[k].1.toNat, by omega⟩
      rw [hz] at m0 hsv hsv2
      have ms : wr.cell? ⟨sg, z, none⟩ = some (.string ((keepN L (List.replicate L.length true) T k).getD z .empty)) := by
        rw [hs'.cellAt _ (by omega)]; simp [keepN_len, List.getD, show z < T.length by omega]
      have mf : wr.frozen? ⟨sg, z, none⟩ = false := hs'.frozenAt _
      have hsz : sg < wr.heap.size := World.block_lt_of_cell? wr ⟨sg, z, none⟩ ms
      have HZ := Lib.hid hz
      have HG := Lib.hid hg
      clear hz hout hb hs' hl' hx hg
      go_wp2_with fail
      go_region
      all_goals
        go_wp2
        go_roundw
        case rel => exact ⟨k + 1, by omega, by go_num, by
          have h := HR.out.set (by simp [List.getD, hlt]) (.cells #[.int .i64 z, .string L[k].2] 59) HH.out.bs HH.out.sl (fun h => absurd h (by omega)) z (by simpa [List.getD, hlt] using HZ.out)
          simpa [List.getD, hlt] using h⟩
        case measure => simp [intOf]; omega
    · have hkl : k = L.length := by omega
      subst hkl
      clear hb hs' hl' hout
      go_wp2
      go_ret
      have g := HH.out
      have hTs := HT.out
      have hLs := HL.out
      have gb : b ∈ S' := HIN.out.1
      refine ⟨rfl, S', ⟨kv, sg, sc, .slice none 0 0, ⟨?_, ?_, World.ownsRow_nil _ _ _ _, ?_, g.bs, by simp [Value.ownBlock], by simp [Value.ownBlock], g.bk, g.sk, by simp [Value.ownBlock], ⟨(fun x hx => by cases hx), g.ok.f1, g.ok.f2, g.ok.d1, g.ok.d2, by simp [DS.synced], g.ok.kn⟩⟩, HIN.out.1, HIN.out.2.1, by simp [Value.ownBlock], HIN.out.2.2.2⟩, HS.out, ?_⟩
      · have h := (dk_set HR.out.blk).2.2.2.2.1 (.slice none 0 0)
        simpa [DS.synced, DS.spent, keepN_len, ha, hTs] using h
      · have h := ownsRow_setCell_other HR.out.safe (by simp [Value.ownBlock]; exact fun e => g.bs e.symm) (a := ⟨b, 4, none⟩) (.slice none 0 0)
        simpa [DS.synced, DS.spent, keepN_len, hTs, hLs] using h
      · refine ownsRow_setCell_other (own_out g.keep HR.out.out ?_) g.bk _
        intro k hk; have := g.bk; have := g.sk; simp; refine ⟨?_, ?_⟩ <;> rintro rfl <;> contradiction
      · refine (HO.out.trans HR.out.out ?_).setCell ?_ _
        · intro x hx
          simp at hx
          rcases hx with rfl | rfl
          · exact HS.out _ HIN.out.1
          · exact HS.out _ HIN.out.2.1
        · exact HS.out _ HIN.out.1
end Go.Proofs.Ytlfeedjgimnahaa
