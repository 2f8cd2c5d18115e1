/- Bytes in plain words: contract of order.Bytes. -/
import Derived.Test.YtbedamkeeongfaaOi
import Derived.Test.YtbedamkeeongfaaOd
namespace Go.Proofs.Ytbedamkeeongfaa
open Go.RowKit Go.Proofs.Ytbedamkeeongfaa.Mem
set_option linter.unusedVariables false

theorem writer_penT : PenT 57 := by unfold PenT; kernel_rfl

theorem writer_vis (b : Nat) : Vis 60 (.pointer (some ⟨b, 0, none⟩)) (.pointer (some ⟨b, 0, none⟩)) 83 82 84 85 where
  nn := fun w => by kernel_rfl
  nf := fun w => by kernel_rfl
  nr := fun w => by kernel_rfl
  nt := fun w => by kernel_rfl
  hn := fun w => by kernel_rfl
  hf := fun w => by kernel_rfl
  hr := fun w => by kernel_rfl
  ht := fun w => by kernel_rfl
  en := fun args w => Go.Proofs.enters_of Try.func83 (by kernel_rfl) rfl args w
  ef := fun args w => Go.Proofs.enters_of Try.func82 (by kernel_rfl) rfl args w
  er := fun args w => Go.Proofs.enters_of Try.func84 (by kernel_rfl) rfl args w
  et := fun args w => Go.Proofs.enters_of Try.func85 (by kernel_rfl) rfl args w

/-- a field's bytes -/
def encF (c : Cmd) (f : Nat) : List UInt8 :=
  if f = 1 then le4 (c.id + 2147483648) else if f = 2 then le4 (c.n + 2147483648) else if f = 3 then [if c.good then 1 else 0] else if f = 4 then le4 c.pr.length ++ rowB c.pr else if f = 5 then le4 c.dr.length ++ rowB c.dr else txB c.data
/-- the fields' bytes -/
def encFs (c : Cmd) (fs : List Nat) : List UInt8 := fs.flatMap (encF c)
/-- a command's bytes -/
def enc (c : Cmd) : List UInt8 := UInt8.ofNat (c.kind % 256).toNat :: encFs c (fieldsOf c.kind)
theorem encFs_snoc (c : Cmd) (fs : List Nat) (f : Nat) : encFs c (fs ++ [f]) = encFs c fs ++ encF c f := by simp [encFs]
/-- what a command that can be is, for the writer -/
structure Fit (c : Cmd) : Prop where
  id : -2147483648 ≤ c.id ∧ c.id < 2147483648
  n : -2147483648 ≤ c.n ∧ c.n < 2147483648
  pl : (c.pr.length : Int) ≤ 32
  pr : ∀ n ∈ c.pr, -2147483648 ≤ n ∧ n < 2147483648
  dl : (c.dr.length : Int) ≤ 32
  dr : ∀ n ∈ c.dr, -2147483648 ≤ n ∧ n < 2147483648
  data : (c.data.size : Int) ≤ 1024
theorem numB_iff (n : Int) : numB n = true ↔ -2147483648 ≤ n ∧ n < 2147483648 := by simp [numB]
theorem rowOk_iff (xs : List Int) : rowOk xs = true ↔ (xs.length : Int) ≤ 32 ∧ ∀ n ∈ xs, -2147483648 ≤ n ∧ n < 2147483648 := by
  simp only [rowOk, Bool.and_eq_true, decide_eq_true_eq, List.all_eq_true, numB_iff]
theorem goodP.fit {c : Cmd} (h : goodP c) : Fit c := by
  obtain ⟨_, _, h1, h2, h3, h4, h5⟩ := h
  rw [numB_iff] at h1 h2
  rw [rowOk_iff] at h3 h4
  exact ⟨h1, h2, h3.1, h3.2, h4.1, h4.2, h5⟩
theorem encF_len {c : Cmd} (h : Fit c) (f : Nat) : ((encF c f).length : Int) ≤ 1100 := by
  have h1 := h.pl
  have h2 := h.dl
  have h3 := h.data
  have h4 : c.data.data.toList.length = c.data.size := by rw [Array.length_toList]; rfl
  unfold encF
  repeat' split
  all_goals simp [le4, txB, rowB_len]
  all_goals first | omega | (simp at h4; omega)

/-- what the visit keeps -/
def WInv (c : Cmd) (p d : Value) (B b cb : Nat) (w0 : World) (fs : List Nat) (w : World) : Prop :=
  w.heap[cb]? = some (.cells (c.vals p d) 24 (0, 0)) ∧ PenAt 57 B b false (UInt8.ofNat (c.kind % 256).toNat :: encFs c fs) w ∧ ((encFs c fs).length : Int) ≤ 1100 * fs.length ∧ Below B w0 w ∧ B ≤ w.heap.size

theorem visit_write (c : Cmd) (p d : Value) (A B b cb : Nat) (w : World) (hf : Fit c) (hcb : cb < B) (hp : Sl w A B p c.pr) (hd : Sl w A B d c.dr) (h : WInv c p d B b cb w [] w) :
    Calls Try.prog 28 #[.pointer (some ⟨cb, 0, none⟩), .iface 60 (.pointer (some ⟨b, 0, none⟩))] w fun e w' => e = .returned (.tuple #[]) ∧ WInv c p d B b cb w (fieldsOf c.kind) w' := by
  have hne : 57 ≠ 5 := by decide
  refine visit_any _ _ _ _ _ _ _ (writer_vis b) cb c.kind (WInv c p d B b cb w) ?_ ?_ ?_ ?_ ?_ ?_ w h
  · rintro fs w' ⟨h1, h2, h3, h4, h5⟩; exact ⟨h1, h2.drew, h3, h4.drew, h5⟩
  · rintro w' ⟨h1, h2, h3, h4⟩; exact (cmd_cells h1).1
  · rintro fs f w' hff hl ⟨h1, h2, h3, h4, h5⟩
    obtain ⟨c0, c1, c2, c3, c4, c5, c6, _⟩ := cmd_cells h1
    have hlen : (((UInt8.ofNat (c.kind % 256).toNat :: encFs c fs).length : Nat) : Int) ≤ 900000 := by simp; omega
    have hnx := encF_len hf f
    rcases hff with rfl | rfl
    · refine (writer_num _ B b writer_penT hne false _ c.id cb 1 w' h2 hlen h5 hf.id c1).mono ?_
      rintro e w2 ⟨rfl, h6, h7⟩
      refine ⟨rfl, (h7.block cb hcb).trans h1, ?_, ?_, h4.trans h7, Nat.le_trans h5 h7.size⟩
      · rw [encFs_snoc]; exact h6
      · rw [encFs_snoc]; simp; omega
    · refine (writer_num _ B b writer_penT hne false _ c.n cb 2 w' h2 hlen h5 hf.n c2).mono ?_
      rintro e w2 ⟨rfl, h6, h7⟩
      refine ⟨rfl, (h7.block cb hcb).trans h1, ?_, ?_, h4.trans h7, Nat.le_trans h5 h7.size⟩
      · rw [encFs_snoc]; exact h6
      · rw [encFs_snoc]; simp; omega
  · rintro fs w' hl ⟨h1, h2, h3, h4, h5⟩
    obtain ⟨c0, c1, c2, c3, c4, c5, c6, _⟩ := cmd_cells h1
    have hlen : (((UInt8.ofNat (c.kind % 256).toNat :: encFs c fs).length : Nat) : Int) ≤ 900000 := by simp; omega
    have hnx := encF_len hf 3
    refine (writer_flag _ B b writer_penT hne false _ c.good cb 3 w' h2 hlen h5 c3).mono ?_
    rintro e w2 ⟨rfl, h6, h7⟩
    refine ⟨rfl, (h7.block cb hcb).trans h1, ?_, ?_, h4.trans h7, Nat.le_trans h5 h7.size⟩
    · rw [encFs_snoc]; exact h6
    · rw [encFs_snoc]; simp; omega
  · rintro fs f w' hff hl _ ⟨h1, h2, h3, h4, h5⟩
    obtain ⟨c0, c1, c2, c3, c4, c5, c6, _⟩ := cmd_cells h1
    have hlen : (((UInt8.ofNat (c.kind % 256).toNat :: encFs c fs).length : Nat) : Int) ≤ 400000 := by simp; omega
    have hnx := encF_len hf f
    have hpl := hf.pl
    have hdl := hf.dl
    rcases hff with rfl | rfl
    · obtain ⟨_, ao, cap, rfl, _, hs⟩ := hp.below (A' := A) (B' := B) h4 (Nat.le_refl _) (Nat.le_refl _)
      obtain ⟨ga, oa, hao, hc⟩ : ∃ ga oa, (0 < c.pr.length → ao = some ⟨ga, oa, none⟩ ∧ ga < B) ∧ (∀ j, j < c.pr.length → w'.cell? ⟨ga, oa + j, none⟩ = some (.int .i64 (c.pr.getD j 0))) := by
        by_cases hx : 0 < c.pr.length
        · obtain ⟨g, o, h1, _, h2, h3⟩ := hs hx
          exact ⟨g, o, fun _ => ⟨h1, h2⟩, h3⟩
        · exact ⟨0, 0, fun h => absurd h hx, fun j hj => absurd hj (by omega)⟩
      refine (writer_row _ B b writer_penT hne false _ c.pr cb 4 ao cap ga oa w' h2 hlen (by omega) h5 hcb c4 hao hc hf.pr).mono ?_
      rintro e w2 ⟨rfl, h6, h7⟩
      refine ⟨rfl, (h7.block cb hcb).trans h1, ?_, ?_, h4.trans h7, Nat.le_trans h5 h7.size⟩
      · rw [encFs_snoc]; exact h6
      · rw [encFs_snoc]; simp; omega
    · obtain ⟨_, ao, cap, rfl, _, hs⟩ := hd.below (A' := A) (B' := B) h4 (Nat.le_refl _) (Nat.le_refl _)
      obtain ⟨ga, oa, hao, hc⟩ : ∃ ga oa, (0 < c.dr.length → ao = some ⟨ga, oa, none⟩ ∧ ga < B) ∧ (∀ j, j < c.dr.length → w'.cell? ⟨ga, oa + j, none⟩ = some (.int .i64 (c.dr.getD j 0))) := by
        by_cases hx : 0 < c.dr.length
        · obtain ⟨g, o, h1, _, h2, h3⟩ := hs hx
          exact ⟨g, o, fun _ => ⟨h1, h2⟩, h3⟩
        · exact ⟨0, 0, fun h => absurd h hx, fun j hj => absurd hj (by omega)⟩
      refine (writer_row _ B b writer_penT hne false _ c.dr cb 5 ao cap ga oa w' h2 hlen (by omega) h5 hcb c5 hao hc hf.dr).mono ?_
      rintro e w2 ⟨rfl, h6, h7⟩
      refine ⟨rfl, (h7.block cb hcb).trans h1, ?_, ?_, h4.trans h7, Nat.le_trans h5 h7.size⟩
      · rw [encFs_snoc]; exact h6
      · rw [encFs_snoc]; simp; omega
  · rintro fs w' hl ⟨h1, h2, h3, h4, h5⟩
    obtain ⟨c0, c1, c2, c3, c4, c5, c6, _⟩ := cmd_cells h1
    have hdt := hf.data
    have hlen : (((UInt8.ofNat (c.kind % 256).toNat :: encFs c fs).length : Nat) : Int) + c.data.size ≤ 800000 := by simp; omega
    have hnx := encF_len hf 6
    refine (writer_text _ B b writer_penT hne false _ c.data cb 6 w' h2 hlen h5 c6).mono ?_
    rintro e w2 ⟨rfl, h6, h7⟩
    refine ⟨rfl, (h7.block cb hcb).trans h1, ?_, ?_, h4.trans h7, Nat.le_trans h5 h7.size⟩
    · rw [encFs_snoc]; exact h6
    · rw [encFs_snoc]; simp; omega
end Go.Proofs.Ytbedamkeeongfaa
