/- Contracts of Disk.check and Disk.use (fuse not at its end), for a disk that lies in memory. -/
import Derived.Test.YtlfeedjgimnahaaProg
import Derived.Test.YtlfeedjgimnahaaM
import Derived.WalkKit
import Derived.KernelRfl
import Derived.RegionTactic
import Derived.Outline
import Derived.Lib.Hide
import Derived.Test.YtlfeedjgimnahaaDa
namespace Go.Proofs.Ytlfeedjgimnahaa
open Go.RowKit Go.Proofs.Ytlfeedjgimnahaa.Mem
set_option linter.unusedVariables false

/-- The disk's own block: away, fuse, keep, safe, loose, done. -/
def dkRow (away : Bool) (fuse : Int) (kv sv lv : Value) (done : Int) : Obj := .cells #[.bool away, .int .i64 fuse, kv, sv, lv, .int .i64 done] 57

structure DkCells (w : World) (b : Nat) (away : Bool) (fuse : Int) (kv sv lv : Value) (done : Int) : Prop where
  c0 : w.cell? ⟨b, 0, none⟩ = some (.bool away)
  c1 : w.cell? ⟨b, 1, none⟩ = some (.int .i64 fuse)
  c2 : w.cell? ⟨b, 2, none⟩ = some kv
  c3 : w.cell? ⟨b, 3, none⟩ = some sv
  c4 : w.cell? ⟨b, 4, none⟩ = some lv
  c5 : w.cell? ⟨b, 5, none⟩ = some (.int .i64 done)
  f : ∀ i, w.frozen? ⟨b, i, none⟩ = false

theorem dk_cells {w : World} {b : Nat} {away : Bool} {fuse : Int} {kv sv lv : Value} {done : Int} (h : w.heap[b]? = some (dkRow away fuse kv sv lv done)) : DkCells w b away fuse kv sv lv done := by
  constructor <;> simp [World.cell?, World.frozen?, h, dkRow]

theorem dk_set {w : World} {b : Nat} {away : Bool} {fuse : Int} {kv sv lv : Value} {done : Int} (h : w.heap[b]? = some (dkRow away fuse kv sv lv done)) :
    (∀ x, (w.setCell ⟨b, 0, none⟩ (.bool x)).heap[b]? = some (dkRow x fuse kv sv lv done)) ∧
    (∀ x, (w.setCell ⟨b, 1, none⟩ (.int .i64 x)).heap[b]? = some (dkRow away x kv sv lv done)) ∧
    (∀ x, (w.setCell ⟨b, 2, none⟩ x).heap[b]? = some (dkRow away fuse x sv lv done)) ∧
    (∀ x, (w.setCell ⟨b, 3, none⟩ x).heap[b]? = some (dkRow away fuse kv x lv done)) ∧
    (∀ x, (w.setCell ⟨b, 4, none⟩ x).heap[b]? = some (dkRow away fuse kv sv x done)) ∧
    (∀ x, (w.setCell ⟨b, 5, none⟩ (.int .i64 x)).heap[b]? = some (dkRow away fuse kv sv lv x)) := by
  refine ⟨fun x => ?_, fun x => ?_, fun x => ?_, fun x => ?_, fun x => ?_, fun x => ?_⟩ <;>
  exact heap_setCell_same w b _ _ _ _ h

theorem check_ok (b : Nat) (at_ : Int) (away : Bool) (fuse done : Int) (kv lv : Value) (sb : Option Addr) (n c : Nat) (w : World) (h : w.heap[b]? = some (dkRow away fuse kv (.slice sb n c) lv done)) :
    Calls Try.prog 32 #[.pointer (some ⟨b, 0, none⟩), .int .i64 at_] w fun e w' => e = .returned (.int .i64 (if at_ < 0 ∨ (n : Int) ≤ at_ then 3 else if away then 4 else 0)) ∧ w = w' := by
  obtain ⟨c0, c1, c2, c3, c4, c5, f⟩ := dk_cells h
  clear h
  go_enter Try.func32, Try.ntmps32
  go_wp2
  all_goals (go_ret; exact ⟨rfl, rfl⟩)

/-- a fuse that is not at its end -/
theorem use_on (b : Nat) (away : Bool) (fuse done : Int) (kv sv lv : Value) (w : World) (h : w.heap[b]? = some (dkRow away fuse kv sv lv done)) (hf : (fuse == 0) = false) (h1 : -1 ≤ fuse) (h2 : fuse ≤ 9223372036854775807) (h3 : 0 ≤ done) (h4 : done ≤ 1000000) :
    Calls Try.prog 31 #[.pointer (some ⟨b, 0, none⟩)] w fun e w' => e = .returned (.int .i64 0) ∧ w'.heap[b]? = some (dkRow away (max (fuse - 1) (-1)) kv sv lv (done + 1)) ∧ Out [b] w w' := by
  obtain ⟨c0, c1, c2, c3, c4, c5, f⟩ := dk_cells h
  have H0 : Hid (w.heap[b]? = some (dkRow away fuse kv sv lv done)) := h
  clear h
  go_enter Try.func31, Try.ntmps31
  go_wp2
  all_goals
    go_ret
    refine ⟨rfl, ?_, ?_⟩
    · have h' := (dk_set ((dk_set H0.out).2.1 (max (fuse - 1) (-1)))).2.2.2.2.2 (done + 1)
      first | exact h' | (rw [Int.max_eq_left (by omega)] at h'; rw [Int.max_eq_left (by omega)]; exact h') | (rw [Int.max_eq_right (by omega)] at h'; rw [Int.max_eq_right (by omega)]; exact h')
    · exact (((Out.refl _ _).setCell (by simp) _).setCell (by simp) _)

end Go.Proofs.Ytlfeedjgimnahaa
