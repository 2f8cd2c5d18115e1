/- Words on rows of cells that are stored whole, inside a walk. No statement is proved here. -/
import Derived.Test.YtbedamkeeongfaaM
import Derived.Laws.Rows
namespace Go.Proofs.Ytbedamkeeongfaa.Mem
open Go.RowKit

/-- a row of cells stored whole, where the walk has come to its cells -/
theorem upon_storeRow {P : Program} {o : Oper} {a : Act} {next : Act → World → Prop} {Q : Exit → Act → World → Prop} {w : World} {g t : Nat} {old cells : Array Value}
    (hg : w.heap[g]? = some (.cells old t (0, 0))) (hs : old.size = cells.size) (h1 : cells.toList.all Value.oneCell' = true) (h : next (a.put o.dst undef) (w.setRow g cells)) :
    o.upon P a next Q (((storeCells ⟨g, 0, none⟩ cells.toList).run P w).andThen fun _ w' => .ok .skip w') := by
  have hr := run_storeCells_from (P := P) g t cells.toList 0 old w hg (by simp; omega) (fun v hv => List.all_eq_true.1 h1 v hv)
  simp only [List.take_zero, List.nil_append, Array.toArray_toList] at hr
  rw [hr]
  exact h

theorem below_row {B : Nat} {w W : World} (h : Below B w W) {g : Nat} (hg : B ≤ g) (cs : Array Value) : Below B w (W.setRow g cs) :=
  ⟨h.os, h.tape, h.output, by rw [setRow_size]; exact h.size, fun k hk => (setRow_other _ _ _ _ (by omega)).trans (h.block k hk)⟩
theorem out_row {S : List Nat} {w W : World} (h : Out S w W) {g : Nat} (hg : g ∈ S ∨ w.heap.size ≤ g) (cs : Array Value) : Out S w (W.setRow g cs) :=
  ⟨h.os, h.tape, h.output, by rw [setRow_size]; exact h.size, fun k hk hn => (setRow_other _ _ _ _ (by rintro rfl; rcases hg with h1 | h1; exact hn h1; omega)).trans (h.block k hk hn)⟩
end Go.Proofs.Ytbedamkeeongfaa.Mem
