/- The cleaner: what it leaves of a command; contract of rest. -/
import Derived.Test.YtbedamkeeongfaaM
import Derived.Test.YtbedamkeeongfaaOa
import Derived.Lib.Builder
import Derived.Shelf.Abstract
import Derived.Laws.Rows
namespace Go.Proofs.Ytbedamkeeongfaa
open Go.RowKit Go.Proofs.Ytbedamkeeongfaa.Mem
set_option linter.unusedVariables false

/-- A command. -/
structure Cmd where
  kind : Int
  id : Int
  n : Int
  good : Bool
  pr : List Int
  dr : List Int
  data : ByteArray

/-- its cells, its rows being the values p and d -/
def Cmd.vals (c : Cmd) (p d : Value) : Array Value := #[.int .i64 c.kind, .int .i64 c.id, .int .i64 c.n, .bool c.good, p, d, .string c.data]

/-- what a cleaned field holds -/
def zeroF (f : Nat) : Value := if f = 3 then .bool false else if f = 4 ∨ f = 5 then .slice none 0 0 else if f = 6 then .string ⟨#[]⟩ else .int .i64 0
/-- cells, some fields of which have been cleaned -/
def clr (fs : List Nat) (a : Array Value) : Array Value := fs.foldl (fun a f => a.setIfInBounds f (zeroF f)) a
theorem clr_snoc (fs : List Nat) (f : Nat) (a : Array Value) : clr (fs ++ [f]) a = (clr fs a).setIfInBounds f (zeroF f) := by simp [clr]
theorem clr_size (fs : List Nat) (a : Array Value) : (clr fs a).size = a.size := by
  induction fs generalizing a with
  | nil => rfl
  | cons f r ih => simp only [clr, List.foldl_cons] at ih ⊢; rw [ih]; simp

theorem heap_set {w : World} {b : Nat} {cs : Array Value} {t : Nat} {fr : Nat × Nat} (h : w.heap[b]? = some (.cells cs t fr)) (f : Nat) (v : Value) :
    (w.setCell ⟨b, f, none⟩ v).heap[b]? = some (.cells (cs.setIfInBounds f v) t fr) := by
  simp [World.setCell, Array.getElem?_modify, h]

set_option maxRecDepth 100000 in
theorem cleaner_num (cb f : Nat) (cs : Array Value) (t : Nat) (w : World) (h : w.heap[cb]? = some (.cells cs t (0, 0))) (hf : f < cs.size) :
    Calls Try.prog 91 #[.agg #[], .pointer (some ⟨cb, f, none⟩)] w fun e w' => e = .returned (.tuple #[]) ∧ w'.heap[cb]? = some (.cells (cs.setIfInBounds f (.int .i64 0)) t (0, 0)) ∧ Out [cb] w w' := by
  have hlt := lt_of_block h
  obtain ⟨v, c1⟩ : ∃ v, w.cell? ⟨cb, f, none⟩ = some v := ⟨cs[f], by rw [Lib.cell_of_heap h]; simp [hf]⟩
  have f1 : w.frozen? ⟨cb, f, none⟩ = false := Lib.frozen_of_heap h f
  have H := Lib.hid h
  clear h
  go_enter Try.func91, Try.ntmps91
  go_wp2
  go_end0
  have h1 := heap_set H.out f (.int .i64 0)
  exact ⟨rfl, by rw [Below.heap_alloc _ _ _ (lt_of_block h1)]; exact h1, ((Out.refl [cb] w).setCell (by simp) _).alloc _⟩

set_option maxRecDepth 100000 in
theorem cleaner_flag (cb f : Nat) (cs : Array Value) (t : Nat) (w : World) (h : w.heap[cb]? = some (.cells cs t (0, 0))) (hf : f < cs.size) :
    Calls Try.prog 90 #[.agg #[], .pointer (some ⟨cb, f, none⟩)] w fun e w' => e = .returned (.tuple #[]) ∧ w'.heap[cb]? = some (.cells (cs.setIfInBounds f (.bool false)) t (0, 0)) ∧ Out [cb] w w' := by
  have hlt := lt_of_block h
  obtain ⟨v, c1⟩ : ∃ v, w.cell? ⟨cb, f, none⟩ = some v := ⟨cs[f], by rw [Lib.cell_of_heap h]; simp [hf]⟩
  have f1 : w.frozen? ⟨cb, f, none⟩ = false := Lib.frozen_of_heap h f
  have H := Lib.hid h
  clear h
  go_enter Try.func90, Try.ntmps90
  go_wp2
  go_end0
  have h1 := heap_set H.out f (.bool false)
  exact ⟨rfl, by rw [Below.heap_alloc _ _ _ (lt_of_block h1)]; exact h1, ((Out.refl [cb] w).setCell (by simp) _).alloc _⟩

set_option maxRecDepth 100000 in
theorem cleaner_row (cb f : Nat) (cs : Array Value) (t : Nat) (w : World) (h : w.heap[cb]? = some (.cells cs t (0, 0))) (hf : f < cs.size) :
    Calls Try.prog 92 #[.agg #[], .pointer (some ⟨cb, f, none⟩)] w fun e w' => e = .returned (.tuple #[]) ∧ w'.heap[cb]? = some (.cells (cs.setIfInBounds f (.slice none 0 0)) t (0, 0)) ∧ Out [cb] w w' := by
  have hlt := lt_of_block h
  obtain ⟨v, c1⟩ : ∃ v, w.cell? ⟨cb, f, none⟩ = some v := ⟨cs[f], by rw [Lib.cell_of_heap h]; simp [hf]⟩
  have f1 : w.frozen? ⟨cb, f, none⟩ = false := Lib.frozen_of_heap h f
  have H := Lib.hid h
  clear h
  go_enter Try.func92, Try.ntmps92
  go_wp2
  go_end0
  have h1 := heap_set H.out f (.slice none 0 0)
  exact ⟨rfl, by rw [Below.heap_alloc _ _ _ (lt_of_block h1)]; exact h1, ((Out.refl [cb] w).setCell (by simp) _).alloc _⟩

set_option maxRecDepth 100000 in
theorem cleaner_text (cb f : Nat) (cs : Array Value) (t : Nat) (w : World) (h : w.heap[cb]? = some (.cells cs t (0, 0))) (hf : f < cs.size) :
    Calls Try.prog 93 #[.agg #[], .pointer (some ⟨cb, f, none⟩)] w fun e w' => e = .returned (.tuple #[]) ∧ w'.heap[cb]? = some (.cells (cs.setIfInBounds f (.string ⟨#[]⟩)) t (0, 0)) ∧ Out [cb] w w' := by
  have hlt := lt_of_block h
  obtain ⟨v, c1⟩ : ∃ v, w.cell? ⟨cb, f, none⟩ = some v := ⟨cs[f], by rw [Lib.cell_of_heap h]; simp [hf]⟩
  have f1 : w.frozen? ⟨cb, f, none⟩ = false := Lib.frozen_of_heap h f
  have H := Lib.hid h
  clear h
  go_enter Try.func93, Try.ntmps93
  go_wp2
  go_end0
  have h1 := heap_set H.out f (.string ⟨#[]⟩)
  exact ⟨rfl, by rw [Below.heap_alloc _ _ _ (lt_of_block h1)]; exact h1, ((Out.refl [cb] w).setCell (by simp) _).alloc _⟩

theorem cleaner_vis : Vis 100 (.agg #[]) (.agg #[]) 91 90 92 93 where
  nn := fun w => by kernel_rfl
  nf := fun w => by kernel_rfl
  nr := fun w => by kernel_rfl
  nt := fun w => by kernel_rfl
  hn := fun w => by kernel_rfl
  hf := fun w => by kernel_rfl
  hr := fun w => by kernel_rfl
  ht := fun w => by kernel_rfl
  en := fun args w => Go.Proofs.enters_of Try.func91 (by kernel_rfl) rfl args w
  ef := fun args w => Go.Proofs.enters_of Try.func90 (by kernel_rfl) rfl args w
  er := fun args w => Go.Proofs.enters_of Try.func92 (by kernel_rfl) rfl args w
  et := fun args w => Go.Proofs.enters_of Try.func93 (by kernel_rfl) rfl args w

theorem visit_clean (cb : Nat) (cs : Array Value) (t : Nat) (kind : Int) (w : World) (h : w.heap[cb]? = some (.cells cs t (0, 0))) (h0 : cs[0]? = some (.int .i64 kind)) (hs : cs.size = 7) :
    Calls Try.prog 28 #[.pointer (some ⟨cb, 0, none⟩), .iface 100 (.agg #[])] w fun e w' => e = .returned (.tuple #[]) ∧ w'.heap[cb]? = some (.cells (clr (fieldsOf kind) cs) t (0, 0)) ∧ Out [cb] w w' := by
  refine visit_any _ _ _ _ _ _ _ cleaner_vis cb kind (fun fs w' => w'.heap[cb]? = some (.cells (clr fs cs) t (0, 0)) ∧ Out [cb] w w') ?_ ?_ ?_ ?_ ?_ ?_ w ⟨h, Out.refl _ _⟩
  · rintro fs w' ⟨h1, h2⟩; exact ⟨h1, h2.drew⟩
  · rintro w' ⟨h1, h2⟩; rw [Lib.cell_of_heap h1]; exact h0
  · rintro fs f w' hf _ ⟨h1, h2⟩
    refine (cleaner_num cb f _ t w' h1 (by rw [clr_size]; omega)).mono ?_
    rintro e w2 ⟨rfl, h3, h4⟩
    refine ⟨rfl, ?_, h2.trans h4 (by simp)⟩
    rw [clr_snoc, h3]; rcases hf with rfl | rfl <;> rfl
  · rintro fs w' _ ⟨h1, h2⟩
    refine (cleaner_flag cb 3 _ t w' h1 (by rw [clr_size]; omega)).mono ?_
    rintro e w2 ⟨rfl, h3, h4⟩
    exact ⟨rfl, by rw [clr_snoc, h3]; rfl, h2.trans h4 (by simp)⟩
  · rintro fs f w' hf _ _ ⟨h1, h2⟩
    refine (cleaner_row cb f _ t w' h1 (by rw [clr_size]; omega)).mono ?_
    rintro e w2 ⟨rfl, h3, h4⟩
    refine ⟨rfl, ?_, h2.trans h4 (by simp)⟩
    rw [clr_snoc, h3]; rcases hf with rfl | rfl <;> rfl
  · rintro fs w' _ ⟨h1, h2⟩
    refine (cleaner_text cb 6 _ t w' h1 (by rw [clr_size]; omega)).mono ?_
    rintro e w2 ⟨rfl, h3, h4⟩
    exact ⟨rfl, by rw [clr_snoc, h3]; rfl, h2.trans h4 (by simp)⟩

/-- a command without what its kind has -/
def Cmd.rest (c : Cmd) : Cmd :=
  let k := fieldsOf c.kind
  ⟨c.kind, if 1 ∈ k then 0 else c.id, if 2 ∈ k then 0 else c.n, if 3 ∈ k then false else c.good, if 4 ∈ k then [] else c.pr, if 5 ∈ k then [] else c.dr, if 6 ∈ k then ⟨#[]⟩ else c.data⟩
theorem fields_cases (k : Int) : fieldsOf k = [1, 2, 4, 5] ∨ fieldsOf k = [1] ∨ fieldsOf k = [2] ∨ fieldsOf k = [3] ∨ fieldsOf k = [6] ∨ fieldsOf k = [2, 6] ∨ fieldsOf k = [] := by
  unfold fieldsOf
  repeat' split
  all_goals simp
theorem heap_two (w : World) (a b : Obj) : ((w.alloc a).alloc b).heap[w.heap.size]? = some a := by
  rw [Below.heap_alloc _ _ _ (by simp)]; exact heap_alloc_new w a
theorem heap_alloc_new2 (w : World) (a b : Obj) : ((w.alloc a).alloc b).heap[w.heap.size + 1]? = some b := by
  have := heap_alloc_new (w.alloc a) b
  simpa using this
theorem clr_vals (c : Cmd) (p d : Value) : clr (fieldsOf c.kind) (c.vals p d) = c.rest.vals (if 4 ∈ fieldsOf c.kind then .slice none 0 0 else p) (if 5 ∈ fieldsOf c.kind then .slice none 0 0 else d) := by
  unfold Cmd.rest
  rcases fields_cases c.kind with h | h | h | h | h | h | h <;> rw [h] <;> simp [clr, zeroF, Cmd.vals]

theorem cmd_cells {w : World} {b t : Nat} {r : Cmd} {p d : Value} (h : w.heap[b]? = some (.cells (r.vals p d) t (0, 0))) :
    w.cell? ⟨b, 0, none⟩ = some (.int .i64 r.kind) ∧ w.cell? ⟨b, 1, none⟩ = some (.int .i64 r.id) ∧ w.cell? ⟨b, 2, none⟩ = some (.int .i64 r.n) ∧ w.cell? ⟨b, 3, none⟩ = some (.bool r.good) ∧
    w.cell? ⟨b, 4, none⟩ = some p ∧ w.cell? ⟨b, 5, none⟩ = some d ∧ w.cell? ⟨b, 6, none⟩ = some (.string r.data) ∧ (∀ j, w.frozen? ⟨b, j, none⟩ = false) := by
  refine ⟨?_, ?_, ?_, ?_, ?_, ?_, ?_, fun j => Lib.frozen_of_heap h j⟩ <;> rw [Lib.cell_of_heap h] <;> rfl
/-- the empty command -/
def Cmd.zero : Cmd := ⟨0, 0, 0, false, [], [], ⟨#[]⟩⟩

set_option maxRecDepth 100000 in
set_option maxHeartbeats 1000000 in
theorem rest_calls (c : Cmd) (p d : Value) (hp : ∃ a n c_, p = .slice a n c_) (hd : ∃ a n c_, d = .slice a n c_) (w : World) :
    Calls Try.prog 31 #[.agg (c.vals p d)] w fun e w' => e = .returned (.agg (c.rest.vals (if 4 ∈ fieldsOf c.kind then .slice none 0 0 else p) (if 5 ∈ fieldsOf c.kind then .slice none 0 0 else d))) ∧ Below w.heap.size w w' := by
  have hp' : ∃ a n c_, (if 4 ∈ fieldsOf c.kind then Value.slice none 0 0 else p) = .slice a n c_ := by
    split
    · exact ⟨_, _, _, rfl⟩
    · exact hp
  have hd' : ∃ a n c_, (if 5 ∈ fieldsOf c.kind then Value.slice none 0 0 else d) = .slice a n c_ := by
    split
    · exact ⟨_, _, _, rfl⟩
    · exact hd
  obtain ⟨pa, pn, pc, hp'⟩ := hp'
  obtain ⟨da, dn, dc, hd'⟩ := hd'
  rw [hp', hd']
  obtain ⟨r, hr⟩ : ∃ r, c.rest = r := ⟨_, rfl⟩
  rw [hr]
  go_enter Try.func31, Try.ntmps31
  go_wp2_with (go_at_call 28; refine (visit_clean w.heap.size (c.vals p d) 24 c.kind _ (by simp [heap_two]) rfl rfl).mono ?_)
  rintro e w1 ⟨rfl, h1, ho⟩
  rw [clr_vals] at h1
  rw [hp', hd', hr] at h1
  have hsz := ho.size
  simp at hsz
  have h2 : w1.heap[w.heap.size + 1]? = some (.cells (Cmd.zero.vals (.slice none 0 0) (.slice none 0 0)) 24 (0, 0)) := by
    rw [ho.block _ (by simp) (by simp)]
    exact heap_alloc_new2 _ _ _
  obtain ⟨c0, c1, c2, c3, c4, c5, c6, cf⟩ := cmd_cells h1
  obtain ⟨d0, d1, d2, d3, d4, d5, d6, df⟩ := cmd_cells h2
  have f0 := df 0
  have f1 := df 1
  have f2 := df 2
  have f3 := df 3
  have f4 := df 4
  have f5 := df 5
  have f6 := df 6
  clear cf df hp' hd' hp hd
  have HO := Lib.hid ho
  have hset := heap_set (heap_set (heap_set (heap_set (heap_set (heap_set (heap_set h2 0 (.int .i64 r.kind)) 1 (.int .i64 r.id)) 2 (.int .i64 r.n)) 3 (.bool r.good)) 4 (.slice pa pn pc)) 5 (.slice da dn dc)) 6 (.string r.data)
  have HS := Lib.hid hset
  clear ho h1 h2 hset
  go_wp2
  refine bodyPost_ret (results_cell_row rfl _ _ (w.heap.size + 1) 24 (r.vals (.slice pa pn pc) (.slice da dn dc)) (0, 0) _ rfl HS.out Try.underlying24 rfl (by kernel_rfl)) rfl ?_
  refine ⟨rfl, ?_⟩
  have ob : Below w.heap.size w w1 := (((Below.refl w.heap.size w).alloc (Nat.le_refl _) _).alloc (by simp) _).trans (HO.out.below (by simp) (by simp; omega))
  exact ((((((ob.setCell (p := ⟨w.heap.size + 1, 0, none⟩) (by simp) _).setCell (p := ⟨w.heap.size + 1, 1, none⟩) (by simp) _).setCell (p := ⟨w.heap.size + 1, 2, none⟩) (by simp) _).setCell (p := ⟨w.heap.size + 1, 3, none⟩) (by simp) _).setCell (p := ⟨w.heap.size + 1, 4, none⟩) (by simp) _).setCell (p := ⟨w.heap.size + 1, 5, none⟩) (by simp) _).setCell (p := ⟨w.heap.size + 1, 6, none⟩) (by simp) _
end Go.Proofs.Ytbedamkeeongfaa
