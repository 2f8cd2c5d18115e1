/- Words on memory that the texts of this seat share: what lies outside a list of blocks stays; append. No statement is proved here. -/
import Derived.WalkKit
import Derived.Deep.Draws
import Derived.Deep.OwnRows
import Derived.OneCell
namespace Go.Proofs.Ytbedamkeeongfaa.Mem
open Go.RowKit

/-- Outside the blocks of S the world w' is as w was; nothing has gone. -/
structure Out (S : List Nat) (w w' : World) : Prop where
  os : w'.os = w.os
  tape : w'.tape = w.tape
  output : w'.output = w.output
  size : w.heap.size ≤ w'.heap.size
  block : ∀ k, k < w.heap.size → k ∉ S → w'.heap[k]? = w.heap[k]?

namespace Out
variable {S S' : List Nat} {w w' w'' : World}
theorem refl (S : List Nat) (w : World) : Out S w w := ⟨rfl, rfl, rfl, Nat.le_refl _, fun _ _ _ => rfl⟩
theorem trans (h : Out S w w') (k : Out S' w' w'') (hs : ∀ x ∈ S', x ∈ S ∨ w.heap.size ≤ x) : Out S w w'' :=
  ⟨k.os.trans h.os, k.tape.trans h.tape, k.output.trans h.output, Nat.le_trans h.size k.size, fun i hi hn =>
    (k.block i (Nat.lt_of_lt_of_le hi h.size) (fun hm => by rcases hs i hm with h1 | h1; exact hn h1; omega)).trans (h.block i hi hn)⟩
theorem mono (h : Out S w w') (hs : ∀ x ∈ S, x ∈ S' ∨ w.heap.size ≤ x) : Out S' w w' :=
  ⟨h.os, h.tape, h.output, h.size, fun i hi hn => h.block i hi (fun hm => by rcases hs i hm with h1 | h1; exact hn h1; omega)⟩
theorem drew (h : Out S w w') : Out S w w'.drew := ⟨h.os, h.tape, h.output, h.size, h.block⟩
theorem drewN (h : Out S w w') (n : Nat) : Out S w (w'.drewN n) := ⟨h.os, h.tape, h.output, h.size, h.block⟩
theorem alloc (h : Out S w w') (o : Obj) : Out S w (w'.alloc o) :=
  ⟨h.os, h.tape, h.output, by have := h.size; simp; omega, fun k hk hn => by
    rw [Below.heap_alloc _ _ _ (by have := h.size; omega)]; exact h.block k hk hn⟩
theorem setCell (h : Out S w w') {a : Addr} (ha : a.block ∈ S ∨ w.heap.size ≤ a.block) (u : Value) : Out S w (w'.setCell a u) :=
  ⟨h.os, h.tape, h.output, by have := h.size; simp [World.setCell]; omega, fun k hk hn => by
    rw [Below.heap_setCell _ _ _ _ (by rintro rfl; rcases ha with h1 | h1; exact hn h1; omega)]; exact h.block k hk hn⟩
theorem grown {row : Option Nat} (h : Out S w w') (hg : w'.grownBy w'' row) (hr : ∀ k, row = some k → k ∈ S ∨ w.heap.size ≤ k) : Out S w w'' :=
  ⟨hg.os.trans h.os, hg.tape.trans h.tape, hg.output.trans h.output, Nat.le_trans h.size hg.size, fun k hk hn =>
    (hg.block k (Nat.lt_of_lt_of_le hk h.size) (fun e => by rcases hr k e.symm with h1 | h1; exact hn h1; omega)).trans (h.block k hk hn)⟩
theorem below (h : Out S w w') {B : Nat} (hB : ∀ x ∈ S, B ≤ x) (hz : B ≤ w.heap.size) : Below B w w' :=
  ⟨h.os, h.tape, h.output, h.size, fun k hk => h.block k (by omega) (fun hm => by have := hB k hm; omega)⟩
theorem of_below (h : Below w.heap.size w w') (S : List Nat) : Out S w w' := ⟨h.os, h.tape, h.output, h.size, fun k hk _ => h.block k hk⟩
end Out

theorem own_slice {w : World} {B e size : Nat} {v : Value} {n : Nat} {xs : List Value} (h : w.ownsRow B e size v n xs) :
    ∃ ao c, v = .slice ao n c ∧ n ≤ c ∧ (0 < n → ∃ g, ao = some ⟨g, 0, none⟩ ∧ v.ownBlock = some g) := by
  rcases h.2 with ⟨rfl, rfl⟩ | ⟨g, cap, cur, rfl, hb, hg, hnc, _⟩
  · exact ⟨none, 0, rfl, Nat.le_refl _, fun h => absurd h (by omega)⟩
  · exact ⟨_, cap, rfl, hnc, fun _ => ⟨g, rfl, rfl⟩⟩

theorem own_out {S : List Nat} {w w' : World} {B e size : Nat} {v : Value} {n : Nat} {xs : List Value} (h : w.ownsRow B e size v n xs) (ho : Out S w w') (hn : ∀ k, v.ownBlock = some k → k ∉ S) : w'.ownsRow B e size v n xs := by
  refine ⟨h.1, ?_⟩
  rcases h.2 with hn' | ⟨g, cap, cur, rfl, hb, hg, rest⟩
  · exact .inl hn'
  · refine .inr ⟨g, cap, cur, rfl, hb, ?_, rest⟩
    rw [ho.block g (Array.getElem?_eq_some_iff.1 hg).1 (hn g rfl)]
    exact hg

/-- where a walk is to stand -/
def Stop (p : Prop) : Prop := p
theorem Stop.mk {p : Prop} (h : Stop p) : p := h
theorem Stop.go {p : Prop} (h : p) : Stop p := h

/-- An element type's row of the program's table. -/
structure ElemT (P : Program) (t e size bytes : Nat) (z : Value) : Prop where
  u : P.underlying t = some (.slice e)
  info : (P.info? e).map (fun i => (i.zero, i.size, i.bytes)) = some (some z, size, bytes)
  zs : z.cells.size = size
  pos : 0 < size

/-- append of at least one element onto what the call owns: the value, and where it lies: the same block, or the newest one. -/
theorem run_app {P : Program} {t e size bytes : Nat} {z : Value} (E : ElemT P t e size bytes z) (ty : Nat) (w : World) (B : Nat) (v : Value) (n : Nat) (xs : List Value) (hown : w.ownsRow B e size v n xs)
    (a : Addr) (m c : Nat) (news : List Value) (hl : news.length = m * size) (hnews : ∀ j u, news[j]? = some u → w.cell? (a.add j) = some u) (h1 : ∀ u ∈ news, u.oneCell' = true) (hm : 0 < m)
    (h63 : n + m ≤ maxLen) (hbytes : (n + m) * bytes ≤ 140737488355328) (hbase : B ≤ w.heap.size) :
    ∃ g cap w', (Builtin.append_ #[t, t] ty #[v, .slice (some a) m c]).run P w = .ok (.slice (some ⟨g, 0, none⟩) (n + m) cap) w' ∧
      w'.ownsRow B e size (.slice (some ⟨g, 0, none⟩) (n + m) cap) (n + m) (xs ++ news) ∧ w.grownBy w' v.ownBlock ∧ (v.ownBlock = some g ∨ g = w.heap.size) := by
  obtain ⟨i, hi, hz, hs, hb⟩ := info_parts E.info
  obtain ⟨v', w', hr, h2, h3, h4⟩ := run_append_own (P := P) w B t ty e i z size bytes E.u hi hz hs hb E.zs E.pos v n xs hown a m c news hl hnews h1 h63 hbytes hbase
  have h63' : n + m ≤ 9223372036854775807 := by unfold maxLen at h63; omega
  rcases hown.2 with ⟨rfl, rfl⟩ | ⟨g, cap, cur, rfl, hbg, hg, hnc, hcm, hcs, htake⟩
  · subst hs; subst hb
    have hr2 := run_append_nil (P := P) w t ty e i z E.u hi hz a m c news hl hnews (by omega) (by omega) (by have hb := hbytes; simp only [Nat.zero_add] at hb; omega)
    rw [hr] at hr2
    injection hr2 with hv _
    have hx : xs = [] := List.eq_nil_of_length_eq_zero (by simpa using hown.1)
    subst hx
    simp only [Nat.zero_add] at h2 ⊢
    subst hv
    exact ⟨_, _, w', hr, h2, h3, .inr rfl⟩
  · by_cases hroom : n + m ≤ cap
    · obtain ⟨w2, hr2, _⟩ := run_append_fits (P := P) w B t ty e i size E.u hi hs g n cap xs hown a m c news hl hnews h1 hroom
      rw [hr] at hr2
      injection hr2 with hv _
      subst hv
      exact ⟨g, cap, w', hr, h2, h3, .inl rfl⟩
    · subst hs; subst hb
      have holds : ∀ j u, xs[j]? = some u → w.cell? ((⟨g, 0, none⟩ : Addr).add j) = some u := hown.cells (g := g) rfl
      have hr2 := run_append_grow (P := P) w t ty e i z E.u hi hz ⟨g, 0, none⟩ n cap xs hown.1 holds a m c news hl hnews (by omega) (by omega) (growslice_fits (by omega) hbytes)
      rw [hr] at hr2
      injection hr2 with hv _
      subst hv
      exact ⟨_, _, w', hr, h2, h3, .inr rfl⟩

theorem grownBy_trans {w w' w'' : World} {row : Option Nat} (h : w.grownBy w' row) (k : w'.grownBy w'' row) : w.grownBy w'' row :=
  ⟨k.os.trans h.os, k.tape.trans h.tape, k.output.trans h.output, Nat.le_trans h.size k.size, fun i hi hn => (k.block i (Nat.lt_of_lt_of_le hi h.size) hn).trans (h.block i hi hn)⟩

/-- 'append(s, x, ..)': the new elements lie in the newest block. -/
theorem wpList_app {P : Program} {ops : Array Oper} {rest : List Oper} {o : Oper} {a : Act} {Q : Exit → Act → World → Prop} {w0 : World} {cs : Array Value} {e' : Nat}
    (hgd : o.guard = none) (s x : Operand) (t : Nat) (ho : o.op = .call { callee := .builtin .append, args := #[s, x], argTypes := #[t, t] })
    {e size bytes : Nat} {z : Value} (E : ElemT P t e size bytes z) (B : Nat) (v : Value) (n : Nat) (xs : List Value) (hs : a.eval s = v) (hown : w0.ownsRow B e size v n xs)
    (m c : Nat) (hx : a.eval x = .slice (some ⟨w0.heap.size, 0, none⟩) m c) (hl : cs.size = m * size) (h1 : cs.toList.all Value.oneCell' = true) (hm : 0 < m)
    (hn : n + m ≤ 16777216) (hby : bytes ≤ 4096) (hbase : B ≤ w0.heap.size)
    (h : ∀ g cap w', w'.ownsRow B e size (.slice (some ⟨g, 0, none⟩) (n + m) cap) (n + m) (xs ++ cs.toList) → w0.grownBy w' v.ownBlock → (v.ownBlock = some g ∨ w0.heap.size ≤ g) →
      wpList P ops Q rest (a.put o.dst (.slice (some ⟨g, 0, none⟩) (n + m) cap)) w') :
    wpList P ops Q (o :: rest) a (w0.alloc (.cells cs e')) := by
  have h1 : ∀ u ∈ cs.toList, u.oneCell' = true := fun u hu => List.all_eq_true.1 h1 u hu
  have h63 : n + m ≤ maxLen := by unfold maxLen; omega
  have hbytes : (n + m) * bytes ≤ 140737488355328 := Nat.le_trans (Nat.mul_le_mul hn hby) (by decide)
  refine wpList_plain hgd fun K hK => ?_
  obtain ⟨g, cap, w', hr, h2, h3, h4⟩ := run_app E o.type (w0.alloc (.cells cs e')) B v n xs (hown.alloc _) ⟨w0.heap.size, 0, none⟩ m c cs.toList (by simpa using hl)
    (fun j u hj => by rw [Addr.add_lit, World.cell?_alloc_at _ _ _ _ rfl]; simpa using hj) h1 hm h63 hbytes (by simp; omega)
  unfold Oper.wp execOp
  simp only [ho, resolve, invoke, builtin, Sem.run_bind, Sem.run_pure, Result.andThen_ok, List.map_toArray, List.map_cons, List.map_nil, hs, hx, hr]
  refine hK _ _ (h g cap w' h2 (grownBy_trans (World.grownBy_alloc _ _ _) h3) ?_)
  rcases h4 with h4 | h4
  · exact .inl h4
  · exact .inr (by simp at h4; omega)

/-- 'append' as a step of a region that draws its order: for 'go_region_law'. -/
theorem step_app {P : Program} {ops : Array Oper} {o : Oper} {a : Act} {w : World} {K : Act → World → Prop} {Q : Exit → Act → World → Prop} {F : Prop}
    (hg : o.guard = none) (s x : Operand) (t : Nat) (ho : o.op = .call { callee := .builtin .append, args := #[s, x], argTypes := #[t, t] })
    {e size bytes : Nat} {z : Value} (E : ElemT P t e size bytes z) (B : Nat) (v : Value) (n : Nat) (xs : List Value) (hs : a.eval s = v) (hown : w.ownsRow B e size v n xs)
    (ad : Addr) (m c : Nat) (news : List Value) (hx : a.eval x = .slice (some ad) m c) (hl : news.length = m * size) (hnews : ∀ j u, news[j]? = some u → w.cell? (ad.add j) = some u) (h1 : news.all Value.oneCell' = true) (hm : 0 < m)
    (hn : n + m ≤ 16777216) (hby : bytes ≤ 4096) (hbase : B ≤ w.heap.size)
    (h : ∀ g cap w', w'.ownsRow B e size (.slice (some ⟨g, 0, none⟩) (n + m) cap) (n + m) (xs ++ news) → w.grownBy w' v.ownBlock → (v.ownBlock = some g ∨ g = w.heap.size) →
      K (a.put o.dst (.slice (some ⟨g, 0, none⟩) (n + m) cap)) w') :
    if Region.wanted o (yielded ops a.tmps) = true then Oper.wp P o a w K Q else F := by
  have hw : Region.wanted o (yielded ops a.tmps) = true := by simp [Region.wanted, hg]
  rw [if_pos hw]
  have h1 : ∀ u ∈ news, u.oneCell' = true := fun u hu => List.all_eq_true.1 h1 u hu
  have h63 : n + m ≤ maxLen := by unfold maxLen; omega
  have hbytes : (n + m) * bytes ≤ 140737488355328 := Nat.le_trans (Nat.mul_le_mul hn hby) (by decide)
  obtain ⟨g, cap, w', hr, h2, h3, h4⟩ := run_app E o.type w B v n xs hown ad m c news hl hnews h1 hm h63 hbytes hbase
  unfold Oper.wp execOp
  simp only [ho, resolve, invoke, builtin, Sem.run_bind, Sem.run_pure, Result.andThen_ok, List.map_toArray, List.map_cons, List.map_nil, hs, hx, hr]
  exact h g cap w' h2 h3 h4

end Go.Proofs.Ytbedamkeeongfaa.Mem
