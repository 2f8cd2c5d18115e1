/- The order in which Command.visit meets the fields of a command, over any visitor whose four methods keep a relation: one contract for the cleaner, the writer and the reader. -/
import Derived.Test.YtbedamkeeongfaaProg
import Derived.WalkKit
import Derived.KernelRfl
import Derived.RegionTactic
import Derived.Outline
import Derived.Lib.Hide
import Derived.Deep.RegionWith
namespace Go.Proofs.Ytbedamkeeongfaa
open Go.RowKit
set_option linter.unusedVariables false

/-- the fields that a kind has, in order: 1 Id, 2 N, 3 Good, 4 Prompt, 5 Draws, 6 Data -/
def fieldsOf (k : Int) : List Nat :=
  if k = 1 then [1, 2, 4, 5] else if k = 2 then [1] else if k = 3 then [1] else if k = 5 then [2] else if k = 10 then [2] else if k = 6 then [3] else if k = 7 then [6] else if k = 8 then [2, 6] else []

/-- a visitor: its dynamic type and value, its methods' functions, what they are called with -/
structure Vis (t : Nat) (x recv : Value) (mn mf mr mt : Nat) : Prop where
  nn : ∀ w, (nilAhead 225 t x "coadjutor/order.num").run Try.prog w = .ok (some false) w
  nf : ∀ w, (nilAhead 225 t x "coadjutor/order.flag").run Try.prog w = .ok (some false) w
  nr : ∀ w, (nilAhead 225 t x "coadjutor/order.row").run Try.prog w = .ok (some false) w
  nt : ∀ w, (nilAhead 225 t x "coadjutor/order.text").run Try.prog w = .ok (some false) w
  hn : ∀ w, (method 225 t x "coadjutor/order.num").run Try.prog w = .ok (mn, recv) w
  hf : ∀ w, (method 225 t x "coadjutor/order.flag").run Try.prog w = .ok (mf, recv) w
  hr : ∀ w, (method 225 t x "coadjutor/order.row").run Try.prog w = .ok (mr, recv) w
  ht : ∀ w, (method 225 t x "coadjutor/order.text").run Try.prog w = .ok (mt, recv) w
  en : ∀ args w, (callFunc mn args).run Try.prog w = .ok (.enter mn args) w
  ef : ∀ args w, (callFunc mf args).run Try.prog w = .ok (.enter mf args) w
  er : ∀ args w, (callFunc mr args).run Try.prog w = .ok (.enter mr args) w
  et : ∀ args w, (callFunc mt args).run Try.prog w = .ok (.enter mt args) w

set_option maxRecDepth 100000 in
set_option maxHeartbeats 2000000 in
theorem visit_any (t : Nat) (x recv : Value) (mn mf mr mt : Nat) (v : Vis t x recv mn mf mr mt) (cb : Nat) (kind : Int) (Inv : List Nat → World → Prop) (hd : ∀ fs w, Inv fs w → Inv fs w.drew)
    (hk : ∀ w, Inv [] w → w.cell? ⟨cb, 0, none⟩ = some (.int .i64 kind))
    (hnum : ∀ fs f w, f = 1 ∨ f = 2 → fs.length ≤ 3 → Inv fs w → Calls Try.prog mn #[recv, .pointer (some ⟨cb, f, none⟩)] w fun e w' => e = .returned (.tuple #[]) ∧ Inv (fs ++ [f]) w')
    (hflag : ∀ fs w, fs.length ≤ 3 → Inv fs w → Calls Try.prog mf #[recv, .pointer (some ⟨cb, 3, none⟩)] w fun e w' => e = .returned (.tuple #[]) ∧ Inv (fs ++ [3]) w')
    (hrow : ∀ fs f w, f = 4 ∨ f = 5 → fs.length ≤ 3 → f ∉ fs → Inv fs w → Calls Try.prog mr #[recv, .pointer (some ⟨cb, f, none⟩)] w fun e w' => e = .returned (.tuple #[]) ∧ Inv (fs ++ [f]) w')
    (htext : ∀ fs w, fs.length ≤ 3 → Inv fs w → Calls Try.prog mt #[recv, .pointer (some ⟨cb, 6, none⟩)] w fun e w' => e = .returned (.tuple #[]) ∧ Inv (fs ++ [6]) w')
    (w : World) (h : Inv [] w) :
    Calls Try.prog 28 #[.pointer (some ⟨cb, 0, none⟩), .iface t x] w fun e w' => e = .returned (.tuple #[]) ∧ Inv (fieldsOf kind) w' := by
  obtain ⟨nn, nf, nr, nt, mhn, mhf, mhr, mht, en, ef, er, et⟩ := v
  have c0 := hk w h
  have H := Lib.hid h
  have HN := Lib.hid hnum
  have HF := Lib.hid hflag
  have HR := Lib.hid hrow
  have HT := Lib.hid htext
  have HD := Lib.hid hd
  clear h hnum hflag hrow htext hd hk
  by_cases k1 : kind = 1
  · subst k1
    have hfo : fieldsOf 1 = [1, 2, 4, 5] := rfl
    rw [hfo]
    clear hfo
    go_enter Try.func28, Try.ntmps28
    go_wp2_with fail
    go_region_with ((with_reducible refine (HN.out [] 1 _ (.inl rfl) (by decide) (HD.out _ _ H.out)).mono ?_); rintro e w0 ⟨rfl, h0⟩; have H0 := Lib.hid (show Inv [1] w0 from h0); clear h0)
    go_wp2_with fail
    go_region_with ((with_reducible refine (HN.out [1] 2 _ (.inr rfl) (by decide) (HD.out _ _ H0.out)).mono ?_); rintro e w1 ⟨rfl, h1⟩; have H1 := Lib.hid (show Inv [1, 2] w1 from h1); clear h1)
    go_wp2_with fail
    go_region_with ((with_reducible refine (HR.out [1, 2] 4 _ (.inl rfl) (by decide) (by decide) (HD.out _ _ H1.out)).mono ?_); rintro e w2 ⟨rfl, h2⟩; have H2 := Lib.hid (show Inv [1, 2, 4] w2 from h2); clear h2)
    go_wp2_with fail
    go_region_with ((with_reducible refine (HR.out [1, 2, 4] 5 _ (.inr rfl) (by decide) (by decide) (HD.out _ _ H2.out)).mono ?_); rintro e w3 ⟨rfl, h3⟩; have H3 := Lib.hid (show Inv [1, 2, 4, 5] w3 from h3); clear h3)
    all_goals
      go_wp2
      go_end0
      exact ⟨rfl, H3.out⟩
  by_cases k2 : kind = 2
  · subst k2
    have hfo : fieldsOf 2 = [1] := rfl
    rw [hfo]
    clear hfo
    go_enter Try.func28, Try.ntmps28
    go_wp2_with fail
    go_region_with ((with_reducible refine (HN.out [] 1 _ (.inl rfl) (by decide) (HD.out _ _ H.out)).mono ?_); rintro e w0 ⟨rfl, h0⟩; have H0 := Lib.hid (show Inv [1] w0 from h0); clear h0)
    all_goals
      go_wp2
      go_end0
      exact ⟨rfl, H0.out⟩
  by_cases k3 : kind = 3
  · subst k3
    have hfo : fieldsOf 3 = [1] := rfl
    rw [hfo]
    clear hfo
    go_enter Try.func28, Try.ntmps28
    go_wp2_with fail
    go_region_with ((with_reducible refine (HN.out [] 1 _ (.inl rfl) (by decide) (HD.out _ _ H.out)).mono ?_); rintro e w0 ⟨rfl, h0⟩; have H0 := Lib.hid (show Inv [1] w0 from h0); clear h0)
    all_goals
      go_wp2
      go_end0
      exact ⟨rfl, H0.out⟩
  by_cases k5 : kind = 5
  · subst k5
    have hfo : fieldsOf 5 = [2] := rfl
    rw [hfo]
    clear hfo
    go_enter Try.func28, Try.ntmps28
    go_wp2_with fail
    go_region_with ((with_reducible refine (HN.out [] 2 _ (.inr rfl) (by decide) (HD.out _ _ H.out)).mono ?_); rintro e w0 ⟨rfl, h0⟩; have H0 := Lib.hid (show Inv [2] w0 from h0); clear h0)
    all_goals
      go_wp2
      go_end0
      exact ⟨rfl, H0.out⟩
  by_cases k10 : kind = 10
  · subst k10
    have hfo : fieldsOf 10 = [2] := rfl
    rw [hfo]
    clear hfo
    go_enter Try.func28, Try.ntmps28
    go_wp2_with fail
    go_region_with ((with_reducible refine (HN.out [] 2 _ (.inr rfl) (by decide) (HD.out _ _ H.out)).mono ?_); rintro e w0 ⟨rfl, h0⟩; have H0 := Lib.hid (show Inv [2] w0 from h0); clear h0)
    all_goals
      go_wp2
      go_end0
      exact ⟨rfl, H0.out⟩
  by_cases k6 : kind = 6
  · subst k6
    have hfo : fieldsOf 6 = [3] := rfl
    rw [hfo]
    clear hfo
    go_enter Try.func28, Try.ntmps28
    go_wp2_with fail
    go_region_with ((with_reducible refine (HF.out [] _ (by decide) (HD.out _ _ H.out)).mono ?_); rintro e w0 ⟨rfl, h0⟩; have H0 := Lib.hid (show Inv [3] w0 from h0); clear h0)
    all_goals
      go_wp2
      go_end0
      exact ⟨rfl, H0.out⟩
  by_cases k7 : kind = 7
  · subst k7
    have hfo : fieldsOf 7 = [6] := rfl
    rw [hfo]
    clear hfo
    go_enter Try.func28, Try.ntmps28
    go_wp2_with fail
    go_region_with ((with_reducible refine (HT.out [] _ (by decide) (HD.out _ _ H.out)).mono ?_); rintro e w0 ⟨rfl, h0⟩; have H0 := Lib.hid (show Inv [6] w0 from h0); clear h0)
    all_goals
      go_wp2
      go_end0
      exact ⟨rfl, H0.out⟩
  by_cases k8 : kind = 8
  · subst k8
    have hfo : fieldsOf 8 = [2, 6] := rfl
    rw [hfo]
    clear hfo
    go_enter Try.func28, Try.ntmps28
    go_wp2_with fail
    go_region_with ((with_reducible refine (HN.out [] 2 _ (.inr rfl) (by decide) (HD.out _ _ H.out)).mono ?_); rintro e w0 ⟨rfl, h0⟩; have H0 := Lib.hid (show Inv [2] w0 from h0); clear h0)
    go_wp2_with fail
    go_region_with ((with_reducible refine (HT.out [2] _ (by decide) (HD.out _ _ H0.out)).mono ?_); rintro e w1 ⟨rfl, h1⟩; have H1 := Lib.hid (show Inv [2, 6] w1 from h1); clear h1)
    all_goals
      go_wp2
      go_end0
      exact ⟨rfl, H1.out⟩
  have hfo : fieldsOf kind = [] := by simp only [fieldsOf, if_neg k1, if_neg k2, if_neg k3, if_neg k5, if_neg k10, if_neg k6, if_neg k7, if_neg k8]
  rw [hfo]
  clear hfo
  have b1 : (kind == 1) = false := by simpa using k1
  have b2 : (kind == 2) = false := by simpa using k2
  have b3 : (kind == 3) = false := by simpa using k3
  have b5 : (kind == 5) = false := by simpa using k5
  have b10 : (kind == 10) = false := by simpa using k10
  have b6 : (kind == 6) = false := by simpa using k6
  have b7 : (kind == 7) = false := by simpa using k7
  have b8 : (kind == 8) = false := by simpa using k8
  clear k1 k2 k3 k5 k10 k6 k7 k8
  go_enter Try.func28, Try.ntmps28
  go_wp2
  go_end0
  exact ⟨rfl, H.out⟩
end Go.Proofs.Ytbedamkeeongfaa
