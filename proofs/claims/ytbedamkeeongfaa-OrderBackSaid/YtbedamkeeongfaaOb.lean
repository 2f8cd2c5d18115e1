/- The pen of package pen over strings.Builder in a block of three cells: contracts of copyCheck, WriteByte, Write, String, Byte, Num, Text, Bytes. -/
import Derived.Test.YtbedamkeeongfaaM
import Derived.Test.YtbedamkeeongfaaProg
import Derived.Shelf.Strings.Builder1
import Derived.Lib.Hide
namespace Go.Proofs.Ytbedamkeeongfaa
open Go.RowKit Go.Proofs.Ytbedamkeeongfaa.Mem
set_option linter.unusedVariables false

/-- A pen in block b, that has its buffer from B on -/
def PenAt (T B b : Nat) (bad : Bool) (l : List UInt8) (w : World) : Prop :=
  B ≤ b ∧ ∃ p v, (p = .pointer none ∨ p = .pointer (some ⟨b, 0, none⟩)) ∧ w.heap[b]? = some (.cells #[p, v, .bool bad] T (0, 0)) ∧ w.ownsRow B 5 1 v l.length (Lib.byteCells l) ∧ v.ownBlock ≠ some b
/-- one that knows where it lies -/
def PenU (T B b : Nat) (bad : Bool) (l : List UInt8) (w : World) : Prop :=
  B ≤ b ∧ ∃ v, w.heap[b]? = some (.cells #[.pointer (some ⟨b, 0, none⟩), v, .bool bad] T (0, 0)) ∧ w.ownsRow B 5 1 v l.length (Lib.byteCells l) ∧ v.ownBlock ≠ some b
theorem PenU.at {T B b bad l w} (h : PenU T B b bad l w) : PenAt T B b bad l w := by
  obtain ⟨hB, v, h1, h2, h3⟩ := h
  exact ⟨hB, _, v, .inr rfl, h1, h2, h3⟩
theorem PenAt.drew {T B b bad l w} (h : PenAt T B b bad l w) : PenAt T B b bad l w.drew := h
theorem PenAt.alloc {T B b bad l w} (h : PenAt T B b bad l w) (o : Obj) : PenAt T B b bad l (w.alloc o) := by
  obtain ⟨hB, p, v, hp, h1, h2, h3⟩ := h
  exact ⟨hB, p, v, hp, by rw [Below.heap_alloc _ _ _ (lt_of_block h1)]; exact h1, h2.alloc o, h3⟩
theorem PenAt.lt {T B b bad l w} (h : PenAt T B b bad l w) : b < w.heap.size := by
  obtain ⟨hB, p, v, hp, h1, h2, h3⟩ := h
  exact lt_of_block h1
theorem PenAt.fresh (T : Nat) (w : World) : PenAt T w.heap.size w.heap.size false [] (w.alloc (.cells #[.pointer none, .slice none 0 0, .bool false] T)) :=
  ⟨Nat.le_refl _, _, _, .inl rfl, heap_alloc_new w _, World.ownsRow_nil _ _ _ _, by simp [Value.ownBlock]⟩

/-- what a type of pens is -/
def PenT (T : Nat) : Prop := liesAt Try.prog Try.prog.depth T (3 / Try.prog.cellsOf T) 0 53 1 = true

set_option maxRecDepth 100000 in
theorem builder_info : (Try.prog.info? 53).map (fun i => i.size) = some 2 := by kernel_rfl
theorem byte_info : (Try.prog.info? 5).map (fun i => (i.zero, i.size, i.bytes)) = some (some (.int .u8 0), 1, 1) := by kernel_rfl

set_option maxRecDepth 100000 in
theorem copyCheck_pen (T B b : Nat) (hT : PenT T) (bad : Bool) (l : List UInt8) (w : World) (h : PenAt T B b bad l w) :
    Calls Try.prog 62 #[.pointer (some ⟨b, 0, none⟩)] w fun e w' => e = .returned (.tuple #[]) ∧ PenU T B b bad l w' ∧ Below B w w' ∧ (∀ k, k < w.heap.size → k ≠ b → w'.heap[k]? = w.heap[k]?) := by
  obtain ⟨j, hj, hjs⟩ := Option.map_eq_some_iff.1 builder_info
  obtain ⟨hB, p, v, hp, h1, h2, h3⟩ := h
  have hsh : w.shape? b = some (T, 3) := by simp [World.shape?, h1]
  have c0 : w.cell? ⟨b, 0, none⟩ = some p := by rw [Lib.cell_of_heap h1]; rfl
  have f0 : w.frozen? ⟨b, 0, none⟩ = false := Lib.frozen_of_heap h1 0
  rcases hp with rfl | rfl
  · go_enter Try.func62, Try.ntmps62
    go_wp2
    rw [Lib.run_to_unsafe w ⟨b, 0, none⟩ Try.underlying50 Try.underlying110 hj (by rw [hjs]; decide) hsh (Nat.zero_lt_succ 2)]
    simp only [Result.andThen]
    rw [Oper.upon_value]
    go_wp2
    rw [run_callFunc_extern Try.func64 (by kernel_rfl) (by kernel_rfl) (by kernel_rfl) (e := Extern.AbiNoEscape.same) (by kernel_rfl)]
    rw [Lib.run_noEscape]
    simp only [Result.andThen]
    rw [Oper.upon_value]
    go_wp2
    rw [Lib.run_from_unsafe w ⟨b, 0, none⟩ Try.underlying110 Try.underlying50 hj hsh hT]
    simp only [Result.andThen]
    rw [Oper.upon_value]
    go_wp2
    go_end0
    refine ⟨rfl, ⟨hB, v, ?_, ?_, h3⟩, (Below.refl B w).setCell (p := ⟨b, 0, none⟩) hB _, fun k _ hk => Below.heap_setCell _ _ _ _ hk⟩
    · simp [World.setCell, Array.getElem?_modify, h1]
    · exact ownsRow_setCell_other h2 h3 _
  · go_enter Try.func62, Try.ntmps62
    go_wp2
    rw [Lib.run_neq_ptr_same w _ Try.underlying50 hj]
    go_wp2
    go_end0
    exact ⟨rfl, ⟨hB, v, h1, h2, h3⟩, Below.refl B _, fun _ _ _ => rfl⟩

theorem PenU.put {T B b : Nat} {bad : Bool} {w : World} {v : Value} {l' : List UInt8} (hB : B ≤ b) (hb : w.heap[b]? = some (.cells #[.pointer (some ⟨b, 0, none⟩), v, .bool bad] T (0, 0))) {v' : Value} (hown : w.ownsRow B 5 1 v' l'.length (Lib.byteCells l')) (hne : v'.ownBlock ≠ some b) :
    PenU T B b bad l' (w.setCell ⟨b, 1, none⟩ v') := by
  refine ⟨hB, v', ?_, ownsRow_setCell_other hown hne _, hne⟩
  simp [World.setCell, Array.getElem?_modify, hb]

set_option maxRecDepth 100000 in
set_option maxHeartbeats 2000000 in
theorem writeByte_pen (T B b : Nat) (hT : PenT T) (hTe : T ≠ 5) (bad : Bool) (l : List UInt8) (c : UInt8) (w : World) (h : PenAt T B b bad l w) (hlen : (l.length : Int) ≤ 1000000) (hBw : B ≤ w.heap.size) :
    Calls Try.prog 60 #[.pointer (some ⟨b, 0, none⟩), .int .u8 (c.toNat : Int)] w fun e w' => e = .returned .nilIface ∧ PenAt T B b bad (l ++ [c]) w' ∧ Below B w w' := by
  obtain ⟨i0, hi, hz0, hz1, hz2⟩ := info_parts byte_info
  have HT := Lib.hid hT
  have H := Lib.hid h
  clear h hT
  have hc := c.toNat_lt
  obtain ⟨cz, hcz⟩ : ∃ z : Int, (c.toNat : Int) = z := ⟨_, rfl⟩
  rw [hcz]
  have HC := Lib.hid hcz
  clear hcz hc
  go_enter Try.func60, Try.ntmps60
  go_wp2_with (go_at_call 62; refine (copyCheck_pen T B b HT.out bad l _ H.out).mono ?_)
  rintro e w1 ⟨rfl, h1, hb1, hk1⟩
  obtain ⟨hB, v, hbk, hown, hne⟩ := h1
  have c0 : w1.cell? ⟨b, 0, none⟩ = some (.pointer (some ⟨b, 0, none⟩)) := by rw [Lib.cell_of_heap hbk]; rfl
  have c1 : w1.cell? ⟨b, 1, none⟩ = some v := by rw [Lib.cell_of_heap hbk]; rfl
  go_wp2_with (at_builtin; refine wpList_append_own _ rfl _ _ 51 rfl B 5 i0 (.int .u8 0) 1 1 Try.underlying51 hi hz0 hz1 hz2 rfl (by decide) _ _ _ rfl (hown.alloc _) ⟨w1.heap.size, 0, none⟩ 1 1 [.int .u8 cz] rfl rfl ?c1 ?c2 ?c3 ?c4 ?c5 ?_)
  case c1 =>
    intro j u hj
    match j, hj with
    | 0, hj => simp at hj; subst hj; simp [Addr.add]
  case c2 => intro u hu; simp at hu; subst hu; rfl
  case c3 => unfold maxLen; omega
  case c4 => omega
  case c5 => have := hb1.size; simp; omega
  intro v' w2 hown' hgrow _
  have hlt : b < w1.heap.size := lt_of_block hbk
  have hb2 : w2.heap[b]? = some (.cells #[.pointer (some ⟨b, 0, none⟩), v, .bool bad] T (0, 0)) := by
    rw [hgrow.block b (by simp; omega) (fun e => hne e.symm), Lib.alloc_old w1 _ b hlt]
    exact hbk
  have d0 : w2.cell? ⟨b, 0, none⟩ = some (.pointer (some ⟨b, 0, none⟩)) := by rw [Lib.cell_of_heap hb2]; rfl
  have d1 : w2.cell? ⟨b, 1, none⟩ = some v := by rw [Lib.cell_of_heap hb2]; rfl
  have f1 : w2.frozen? ⟨b, 1, none⟩ = false := Lib.frozen_of_heap hb2 1
  obtain ⟨g, cap, rfl⟩ : ∃ g cap, v' = .slice (some ⟨g, 0, none⟩) (l.length + 1) cap := by
    rcases hown'.2 with ⟨_, h0⟩ | ⟨g, cap, cur, hv, _⟩
    · omega
    · exact ⟨g, cap, hv⟩
  go_wp2
  go_ret
  refine ⟨rfl, ?_, ?_⟩
  · refine PenU.at (PenU.put hB hb2 (l' := l ++ [c]) ?_ (Lib.ownBlock_ne hown' hb2 hTe))
    rw [Lib.byteCells_append, List.length_append]
    have : Lib.byteCells [c] = [.int .u8 cz] := by simp [Lib.byteCells, HC.out]
    rw [this]
    exact hown'
  · exact ((hb1.alloc (by have := hb1.size; omega) _).grown hgrow (by have := hb1.size; simp; omega) (fun k hk => (hown.lt k hk).1)).setCell (p := ⟨b, 1, none⟩) hB _

set_option maxRecDepth 100000 in
set_option maxHeartbeats 2000000 in
theorem write_pen (T B b : Nat) (hT : PenT T) (hTe : T ≠ 5) (bad : Bool) (l m : List UInt8) (g0 o0 c0 : Nat) (w : World) (h : PenAt T B b bad l w) (hlen : (l.length : Int) + m.length ≤ 1000000) (hBw : B ≤ w.heap.size)
    (hm : ∀ j u, (Lib.byteCells m)[j]? = some u → w.cell? ⟨g0, o0 + j, none⟩ = some u) (hgb : g0 ≠ b) :
    Calls Try.prog 51 #[.pointer (some ⟨b, 0, none⟩), .slice (some ⟨g0, o0, none⟩) m.length c0] w fun e w' => e = .returned (.tuple #[.int .i64 m.length, .nilIface]) ∧ PenAt T B b bad (l ++ m) w' ∧ Below B w w' := by
  obtain ⟨i0, hi, hz0, hz1, hz2⟩ := info_parts byte_info
  have HT := Lib.hid hT
  have H := Lib.hid h
  have HM := Lib.hid hm
  clear h hT hm
  go_enter Try.func51, Try.ntmps51
  go_wp2_with (go_at_call 62; refine (copyCheck_pen T B b HT.out bad l _ H.out).mono ?_)
  rintro e w1 ⟨rfl, h1, hb1, hk1⟩
  obtain ⟨hB, v, hbk, hown, hne⟩ := h1
  have c0 : w1.cell? ⟨b, 0, none⟩ = some (.pointer (some ⟨b, 0, none⟩)) := by rw [Lib.cell_of_heap hbk]; rfl
  have c1 : w1.cell? ⟨b, 1, none⟩ = some v := by rw [Lib.cell_of_heap hbk]; rfl
  have HK := Lib.hid hk1
  clear hk1
  go_wp2_with (at_builtin; refine wpList_append_own _ rfl _ _ 51 rfl B 5 i0 (.int .u8 0) 1 1 Try.underlying51 hi hz0 hz1 hz2 rfl (by decide) _ _ _ rfl hown ⟨g0, o0, none⟩ m.length _ (Lib.byteCells m) rfl (by simp [Lib.byteCells_length]) ?c1 ?c2 ?c3 ?c4 ?c5 ?_)
  case c1 =>
    intro j u hj
    have := HM.out j u hj
    rw [Addr.add_lit]
    rw [World.cell?_of_block (w := w) (HK.out g0 (World.block_lt_of_cell? _ _ this) hgb)]
    exact this
  case c2 => intro u hu; obtain ⟨x, _, rfl⟩ := List.mem_map.1 hu; rfl
  case c3 => unfold maxLen; omega
  case c4 => omega
  case c5 => have := hb1.size; omega
  intro v' w2 hown' hgrow _
  have hlt : b < w1.heap.size := lt_of_block hbk
  have hb2 : w2.heap[b]? = some (.cells #[.pointer (some ⟨b, 0, none⟩), v, .bool bad] T (0, 0)) := by
    rw [hgrow.block b hlt (fun e => hne e.symm)]
    exact hbk
  have d0 : w2.cell? ⟨b, 0, none⟩ = some (.pointer (some ⟨b, 0, none⟩)) := by rw [Lib.cell_of_heap hb2]; rfl
  have d1 : w2.cell? ⟨b, 1, none⟩ = some v := by rw [Lib.cell_of_heap hb2]; rfl
  have f1 : w2.frozen? ⟨b, 1, none⟩ = false := Lib.frozen_of_heap hb2 1
  obtain ⟨ao, n', cap, rfl⟩ : ∃ ao n' cap, v' = .slice ao n' cap := by
    rcases hown'.2 with ⟨hv, _⟩ | ⟨g, cap, cur, hv, _⟩
    · exact ⟨_, _, _, hv⟩
    · exact ⟨_, _, _, hv⟩
  go_wp2
  go_ret2
  refine ⟨rfl, ?_, ?_⟩
  · refine PenU.at (PenU.put hB hb2 (l' := l ++ m) ?_ (Lib.ownBlock_ne hown' hb2 hTe))
    rw [Lib.byteCells_append, List.length_append]
    exact hown'
  · exact (hb1.grown hgrow (by have := hb1.size; omega) (fun k hk => (hown.lt k hk).1)).setCell (p := ⟨b, 1, none⟩) hB _

set_option maxRecDepth 100000 in
set_option maxHeartbeats 2000000 in
/-- String of a pen that holds something -/
theorem string_pen (T B b : Nat) (bad : Bool) (l : List UInt8) (w : World) (h : PenAt T B b bad l w) (h0 : l ≠ []) :
    Calls Try.prog 52 #[.pointer (some ⟨b, 0, none⟩)] w fun e w' => e = .returned (.string ⟨l.toArray⟩) ∧ Below B w w' := by
  obtain ⟨hB, p, v, _, hbk, hown, hne⟩ := h
  have hl0 : l.length ≠ 0 := by simpa using h0
  obtain ⟨g, cap, cur, rfl, hbg, hg, hnc, hcm, hcs, htake⟩ : ∃ g cap cur, v = .slice (some ⟨g, 0, none⟩) l.length cap ∧ B ≤ g ∧ w.heap[g]? = some (.cells cur 5 (0, 0)) ∧ l.length ≤ cap ∧ cap ≤ maxLen ∧ cur.size = cap * 1 ∧ cur.toList.take (l.length * 1) = Lib.byteCells l := by
    rcases hown.2 with ⟨_, hz⟩ | ⟨g, cap, cur, hv, r⟩
    · exact absurd hz hl0
    · exact ⟨g, cap, cur, hv, r⟩
  have c1 : w.drew.cell? ⟨b, 1, none⟩ = some (.slice (some ⟨g, 0, none⟩) l.length cap) := by
    have : w.drew.heap[b]? = some (.cells #[p, .slice (some ⟨g, 0, none⟩) l.length cap, .bool bad] T (0, 0)) := hbk
    rw [Lib.cell_of_heap this]; rfl
  have hSD : (Builtin.unsafeSliceData_ #[51] 108 #[.slice (some ⟨g, 0, none⟩) l.length cap]).run Try.prog w.drew = .ok (.pointer (some ⟨g, 0, none⟩)) w.drew :=
    Lib.run_unsafeSliceData_row _ _ _ _ _ _ (by omega)
  have hUS : (Builtin.unsafeString_ #[108, 3] 9 #[.pointer (some ⟨g, 0, none⟩), .int .i64 l.length]).run Try.prog w.drew = .ok (.string ⟨l.toArray⟩) (w.drew.freeze ⟨g, 0, none⟩ l.length) := by
    refine Lib.run_unsafeString_row w.drew 108 3 9 5 Try.underlying108 (by kernel_rfl) g cur.size (by have hg' : w.drew.heap[g]? = some (.cells cur 5 (0, 0)) := hg; simp [World.shape?, hg']) l h0 (by omega) (by unfold maxLen at hcm; omega) ?_
    intro j x hx
    have := hown.cells (g := g) rfl j (.int .u8 x.toNat) (by simp [Lib.byteCells, hx])
    exact this
  clear hown hnc hcm hcs htake
  go_enter Try.func52, Try.ntmps52
  go_wp2
  go_region
  all_goals (go_wp2; go_ret; exact ⟨rfl, Lib.below_freeze (Below.drew (Below.refl B w)) (p := ⟨g, 0, none⟩) hbg _⟩)

theorem writeByte_penz (T B b : Nat) (hT : PenT T) (hTe : T ≠ 5) (bad : Bool) (l : List UInt8) (c : Int) (u : UInt8) (w : World) (hc : c = u.toNat) (h : PenAt T B b bad l w) (hlen : (l.length : Int) ≤ 1000000) (hBw : B ≤ w.heap.size) :
    Calls Try.prog 60 #[.pointer (some ⟨b, 0, none⟩), .int .u8 c] w fun e w' => e = .returned .nilIface ∧ PenAt T B b bad (l ++ [u]) w' ∧ Below B w w' := by
  subst hc
  exact writeByte_pen T B b hT hTe bad l u w h hlen hBw
end Go.Proofs.Ytbedamkeeongfaa
