/- The law OrderBack answers true for every two commands, and leaves its arguments as they were; no condition beyond the form's own. The frame was begun by the guide's proof-skeleton program. -/
import Derived.Test.YtbedamkeeongfaaRows
import Derived.Test.YtbedamkeeongfaaQe
import Derived.Test.YtbedamkeeongfaaPg
import Derived.WalkKit
import Derived.ProofKit
import Derived.OpenShut
import Derived.ShutString
import Derived.ChangeOld
import Derived.Below
namespace Go.Proofs.Ytbedamkeeongfaa.orderBack
open Go.ChangeShapes Go.WideShapes Go.ChangeAt Go.RowKit
open Go.ChangeMaps (open_string shut_string)
set_option linter.unusedVariables false

theorem own : ownKnob Try.prog.godebug = none := by kernel_rfl
theorem laidOut : laidOutB Try.prog = true := by kernel_rfl

set_option maxRecDepth 100000 in
theorem lifted (os : Os) (started : os.Started) (H : Type) (enc : TypeId × Value → H) :
    ReturnsInHanded {} Try.checked os 4 .any (Rows.orderBackSpec.pre6 enc Try.prog Try.f4 Rows.orderBackRow.domain false) (Rows.orderBackSpec.post enc Try.prog Try.f4 false true false false) := by
  refine returnsInHanded_of_change (C := Try.checked) own started (by kernel_rfl) Try.func4
    (ChangeSpec.witness6 (enc := enc) (C := Try.checked) false ⟨#[], #[.agg #[.int .i64 0, .int .i64 0, .int .i64 0, .bool false, .slice none 0 0, .slice none 0 0, .string ByteArray.empty], .agg #[.int .i64 0, .int .i64 0, .int .i64 0, .bool false, .slice none 0 0, .slice none 0 0, .string ByteArray.empty]], []⟩ 8 (by kernel_rfl) (by kernel_rfl) (by kernel_rfl) (by kernel_rfl)) ?_
  intro W base args ds gs before hval0 hW hcnd _
  have hval : ∀ (j : Nat) t v, Try.f4.params[j]? = some t → args[j]? = some v → Value.okWide Try.prog W .any base t v := hval0
  have hW' := hW
  obtain ⟨p, q, hA0, hV, rfl, hfz, hnd⟩ := hW
  have hA : DataW.TrodAll enc Try.prog W 0 (fun _ => true) true Try.f4.params.toList args.toList ds p := hA0
  rw [Try.params4] at hA hval
  obtain ⟨v0, vs0, d0, ds0, p0, q0, hargs, rfl, rfl, h0, r0⟩ := trodAll_cons hA
  obtain ⟨v1, vs1, d1, ds1, p1, q1, rfl, rfl, rfl, h1, r1⟩ := trodAll_cons r0
  obtain ⟨rfl, rfl, rfl⟩ := trodAll_nil r1
  obtain rfl : args = #[v0, v1] := by cases args; simp_all
  obtain ⟨rfl, rfl⟩ := trodVars_none hV
  have k0 := h0
  have lt0 : ∀ x ∈ p0, x.block < W.heap.size := by obtain ⟨m, hm⟩ := k0; exact DataW.trod_lt m _ _ _ hm
  obtain ⟨c0, c1, c2, c3, nc4, nc5, c6, y0, y1, y2, y3, y4, y5, y6, m, rfl, -, -, hy0, hy1, hy2, hy3, hy4, hy5, hy6⟩ := open_agg7 Try.underlying24 (by kernel_rfl) (by kernel_rfl) (hval 0 24 v0 rfl rfl) h0
  obtain ⟨n0, e0, -, -⟩ := DataW.trod_int Try.underlying3 hy0
  obtain ⟨n1, e1, -, -⟩ := DataW.trod_int Try.underlying3 hy1
  obtain ⟨n2, e2, -, -⟩ := DataW.trod_int Try.underlying3 hy2
  obtain ⟨n3, e3, -⟩ := DataW.trod_bool Try.underlying4 hy3
  obtain ⟨n4, nw4⟩ := slW_of hy4
  obtain ⟨n5, nw5⟩ := slW_of hy5
  obtain ⟨n6, e6, -, -⟩ := DataW.trod_string Try.underlying9 hy6
  simp only [List.cons.injEq, and_true] at e0 e1 e2 e3 e6
  subst e0 e1 e2 e3 e6
  clear hy0 hy1 hy2 hy3 hy4 hy5 hy6
  have k1 := h1
  have lt1 : ∀ x ∈ p1, x.block < W.heap.size := by obtain ⟨m, hm⟩ := k1; exact DataW.trod_lt m _ _ _ hm
  obtain ⟨c0, c1, c2, c3, bc4, bc5, c6, y0, y1, y2, y3, y4, y5, y6, m, rfl, -, -, hy0, hy1, hy2, hy3, hy4, hy5, hy6⟩ := open_agg7 Try.underlying24 (by kernel_rfl) (by kernel_rfl) (hval 1 24 v1 rfl rfl) h1
  obtain ⟨b0, e0, -, -⟩ := DataW.trod_int Try.underlying3 hy0
  obtain ⟨b1, e1, -, -⟩ := DataW.trod_int Try.underlying3 hy1
  obtain ⟨b2, e2, -, -⟩ := DataW.trod_int Try.underlying3 hy2
  obtain ⟨b3, e3, -⟩ := DataW.trod_bool Try.underlying4 hy3
  obtain ⟨b4, bw4⟩ := slW_of hy4
  obtain ⟨b5, bw5⟩ := slW_of hy5
  obtain ⟨b6, e6, -, -⟩ := DataW.trod_string Try.underlying9 hy6
  simp only [List.cons.injEq, and_true] at e0 e1 e2 e3 e6
  subst e0 e1 e2 e3 e6
  clear hy0 hy1 hy2 hy3 hy4 hy5 hy6
  clear hA0 hval0
  refine (orderBack_walk ⟨n0, n1, n2, n3, n4, n5, n6⟩ ⟨b0, b1, b2, b3, b4, b5, b6⟩ nc4 nc5 bc4 bc5 W nw4 nw5 bw4 bw5).mono fun e W' ⟨he, bel⟩ => ?_
  subst he
  exact ⟨_, rfl, _, _, _, [], _, [], hW', trodAll_mk1 (shut_bool Try.underlying4 _), (trodAll_cons_mk (Below.trod laidOut (by kernel_rfl) (of_decide_eq_true (by kernel_rfl)) k0 bel lt0) (trodAll_cons_mk (Below.trod laidOut (by kernel_rfl) (of_decide_eq_true (by kernel_rfl)) k1 bel lt1) trodAll_mk0)), rfl, bel.frame _, fun h => by cases h⟩

theorem over : Rows.orderBackRow.holds Try.pinned (OpenSpec.ofChange Rows.orderBackSpec) :=
  OpenClaim.holds_of_wide 4 Try.f4 rfl rfl rfl rfl rfl rfl rfl ⟨rfl, rfl, rfl, rfl, rfl⟩ rfl rfl rfl rfl rfl (by kernel_rfl) Try.func4 (by kernel_rfl)
    (of_decide_eq_true (by kernel_rfl)) (by unfold Func.isWrapper; first | (rw [if_pos (by decide +kernel)]; kernel_rfl) | (rw [if_neg (by decide +kernel)]; exact ⟨rfl, rfl⟩))
    (fun os started H enc _ => lifted os started H enc)

theorem proved : Rows.OrderBackSaid := over
end Go.Proofs.Ytbedamkeeongfaa.orderBack
