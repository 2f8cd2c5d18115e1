/- A disk in memory as a state, and the contracts of the methods that only read it, and of Come. -/
import Derived.Test.YtlfeedjgimnahaaDd
namespace Go.Proofs.Ytlfeedjgimnahaa
open Go.RowKit Go.Proofs.Ytlfeedjgimnahaa.Mem
set_option linter.unusedVariables false

/-- a disk's state -/
structure DS where
  away : Bool
  fuse : Int
  keep : List Bool
  safe : List ByteArray
  loose : List (Int × ByteArray)
  done : Int

structure DS.Ok (D : DS) : Prop where
  l : ∀ x ∈ D.loose, 0 ≤ x.1 ∧ x.1 < D.safe.length
  f1 : -1 ≤ D.fuse
  f2 : D.fuse ≤ 9223372036854775807
  d1 : 0 ≤ D.done
  d2 : D.done ≤ 1000000
  ln : D.loose.length ≤ 1000000
  kn : D.keep.length ≤ 1000000

structure DkW (w : World) (b : Nat) (D : DS) (kv : Value) (sg sc : Nat) (lv : Value) : Prop where
  blk : w.heap[b]? = some (dkRow D.away D.fuse kv (.slice (some ⟨sg, 0, none⟩) D.safe.length sc) lv D.done)
  safe : w.ownsRow 0 9 1 (.slice (some ⟨sg, 0, none⟩) D.safe.length sc) D.safe.length (D.safe.map .string)
  loose : w.ownsRow 0 59 2 lv D.loose.length (flatW D.loose)
  keep : w.ownsRow 0 4 1 kv D.keep.length (D.keep.map .bool)
  bs : b ≠ sg
  bl : lv.ownBlock ≠ some b
  sl : lv.ownBlock ≠ some sg
  bk : kv.ownBlock ≠ some b
  sk : kv.ownBlock ≠ some sg
  kl : ∀ k, kv.ownBlock = some k → lv.ownBlock ≠ some k
  ok : D.Ok

def DkIn (b : Nat) (kv : Value) (sg : Nat) (lv : Value) (S : List Nat) : Prop :=
  b ∈ S ∧ sg ∈ S ∧ (∀ k, lv.ownBlock = some k → k ∈ S) ∧ (∀ k, kv.ownBlock = some k → k ∈ S)

def DkAt (w : World) (b : Nat) (D : DS) (S : List Nat) : Prop := ∃ kv sg sc lv, DkW w b D kv sg sc lv ∧ DkIn b kv sg lv S

/-- what an operation on a disk leaves -/
def DkStep (w : World) (b : Nat) (S : List Nat) (D' : DS) (w' : World) : Prop := ∃ S', DkAt w' b D' S' ∧ (∀ x ∈ S', x ∈ S ∨ w.heap.size ≤ x) ∧ Out S w w'

theorem DkAt.out {w w' : World} {b : Nat} {D : DS} {S T : List Nat} (h : DkAt w b D S) (ho : Out T w w') (hd : ∀ x ∈ S, x ∉ T) : DkAt w' b D S := by
  obtain ⟨kv, sg, sc, lv, h, h1, h2, h3, h4⟩ := h
  exact ⟨kv, sg, sc, lv, ⟨by rw [ho.block b (lt_of_block h.blk) (hd _ h1)]; exact h.blk, own_out h.safe ho (by intro k hk; simp [Value.ownBlock] at hk; subst hk; exact hd _ h2), own_out h.loose ho (fun k hk => hd _ (h3 k hk)),
    own_out h.keep ho (fun k hk => hd _ (h4 k hk)), h.bs, h.bl, h.sl, h.bk, h.sk, h.kl, h.ok⟩, h1, h2, h3, h4⟩

theorem DkAt.lt {w : World} {b : Nat} {D : DS} {S : List Nat} (h : DkAt w b D S) : b < w.heap.size := by
  obtain ⟨kv, sg, sc, lv, h, _⟩ := h
  exact lt_of_block h.blk

theorem DkStep.refl {w : World} {b : Nat} {S : List Nat} {D : DS} (h : DkAt w b D S) : DkStep w b S D w := ⟨S, h, fun x hx => .inl hx, Out.refl _ _⟩

theorem DkStep.trans {w w' w'' : World} {b : Nat} {S : List Nat} {D D' : DS} (h : DkStep w b S D w') (k : ∀ S', DkAt w' b D S' → DkStep w' b S' D' w'') : DkStep w b S D' w'' := by
  obtain ⟨S', h1, h2, h3⟩ := h
  obtain ⟨S'', k1, k2, k3⟩ := k S' h1
  refine ⟨S'', k1, fun x hx => ?_, h3.trans k3 h2⟩
  rcases k2 x hx with h | h
  · exact h2 x h
  · have := h3.size; exact .inr (by omega)

/-- of the reads -/
structure DkR (w : World) (b : Nat) (D : DS) : Prop where
  c0 : w.cell? ⟨b, 0, none⟩ = some (.bool D.away)
  c1 : w.cell? ⟨b, 1, none⟩ = some (.int .i64 D.fuse)
  c3 : ∃ sg sc, w.cell? ⟨b, 3, none⟩ = some (.slice (some ⟨sg, 0, none⟩) D.safe.length sc)
  c4 : ∃ la lc, w.cell? ⟨b, 4, none⟩ = some (.slice la D.loose.length lc)
  c5 : w.cell? ⟨b, 5, none⟩ = some (.int .i64 D.done)
theorem DkAt.reads {w : World} {b : Nat} {D : DS} {S : List Nat} (h : DkAt w b D S) : DkR w b D := by
  obtain ⟨kv, sg, sc, lv, h, _⟩ := h
  obtain ⟨c0, c1, c2, c3, c4, c5, f⟩ := dk_cells h.blk
  obtain ⟨la, lc, rfl, _⟩ := own_slice h.loose
  exact ⟨c0, c1, ⟨_, _, c3⟩, ⟨_, _, c4⟩, c5⟩

theorem isOn_dk {w : World} {b : Nat} {D : DS} {S : List Nat} (h : DkAt w b D S) : Calls Try.prog 12 #[.pointer (some ⟨b, 0, none⟩)] w fun e w' => e = .returned (.bool (!D.away)) ∧ w = w' :=
  diskIsOn _ _ _ h.reads.c0

theorem done_dk {w : World} {b : Nat} {D : DS} {S : List Nat} (h : DkAt w b D S) : Calls Try.prog 13 #[.pointer (some ⟨b, 0, none⟩)] w fun e w' => e = .returned (.int .i64 D.done) ∧ w = w' := by
  have c5 := h.reads.c5
  clear h
  go_enter Try.func13, Try.ntmps13
  go_wp2
  go_ret
  exact ⟨rfl, rfl⟩

theorem loose_dk {w : World} {b : Nat} {D : DS} {S : List Nat} (h : DkAt w b D S) : Calls Try.prog 25 #[.pointer (some ⟨b, 0, none⟩)] w fun e w' => e = .returned (.int .i64 D.loose.length) ∧ w = w' := by
  obtain ⟨la, lc, c4⟩ := h.reads.c4
  clear h
  go_enter Try.func25, Try.ntmps25
  go_wp2
  go_ret
  exact ⟨rfl, rfl⟩

theorem len_dk {w : World} {b : Nat} {D : DS} {S : List Nat} (h : DkAt w b D S) : Calls Try.prog 17 #[.pointer (some ⟨b, 0, none⟩)] w fun e w' => e = .returned (.int .i64 D.safe.length) ∧ w = w' := by
  obtain ⟨sg, sc, c3⟩ := h.reads.c3
  clear h
  go_enter Try.func17, Try.ntmps17
  go_wp2
  go_ret
  exact ⟨rfl, rfl⟩

/-- Come, where the power is away -/
def DS.come (D : DS) : DS := if D.away then { D with away := false, fuse := -1 } else D
theorem come_dk {w : World} {b : Nat} {D : DS} {S : List Nat} (h : DkAt w b D S) (ha : D.away = true) :
    Calls Try.prog 27 #[.pointer (some ⟨b, 0, none⟩)] w fun e w' => e = .returned (.tuple #[]) ∧ DkStep w b S { D with away := false, fuse := -1 } w' := by
  obtain ⟨kv, sg, sc, lv, h, hin⟩ := h
  obtain ⟨c0, c1, c2, c3, c4, c5, f⟩ := dk_cells h.blk
  rw [ha] at c0
  have H := Lib.hid h
  have HI := Lib.hid hin
  clear h hin
  go_enter Try.func27, Try.ntmps27
  go_wp2
  go_end0
  refine ⟨rfl, S, ⟨kv, sg, sc, lv, ?_, HI.out⟩, fun x hx => .inl hx, ((Out.refl _ _).setCell (.inl HI.out.1) _).setCell (.inl HI.out.1) _⟩
  have g := H.out
  refine ⟨(dk_set ((dk_set g.blk).1 false)).2.1 (-1), ?_, ?_, ?_, g.bs, g.bl, g.sl, g.bk, g.sk, g.kl, ⟨g.ok.l, by show (-1 : Int) ≤ -1; decide, by show (-1 : Int) ≤ 9223372036854775807; decide, g.ok.d1, g.ok.d2, g.ok.ln, g.ok.kn⟩⟩
  · exact ownsRow_setCell_other (ownsRow_setCell_other g.safe (by simp [Value.ownBlock]; exact fun e => g.bs e.symm) _) (by simp [Value.ownBlock]; exact fun e => g.bs e.symm) _
  · exact ownsRow_setCell_other (ownsRow_setCell_other g.loose g.bl _) g.bl _
  · exact ownsRow_setCell_other (ownsRow_setCell_other g.keep g.bk _) g.bk _
end Go.Proofs.Ytlfeedjgimnahaa
