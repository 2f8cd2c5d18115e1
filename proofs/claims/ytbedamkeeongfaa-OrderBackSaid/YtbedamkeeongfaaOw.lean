/- What the reference's eye gives, by the printed functions, in the words of the pen's eye; plain equations. -/
import Derived.Test.YtbedamkeeongfaaOs
import Derived.Test.YtbedamkeeongfaaOf
import Derived.Test.YtbedamkeeongfaaPOrderExactx4
namespace Go.Proofs.Ytbedamkeeongfaa
open Go.RowKit Go.Proofs.Ytbedamkeeongfaa.Mem Go.Proofs.Ytbedamkeeongfaa.POrderExact Go.Proofs.YtbedamkeeongfaaW.PrintWords Go.Proofs.YtbedamkeeongfaaW.PrintLast Go.Proofs.YtbedamkeeongfaaW.PrintMore
set_option linter.unusedVariables false

theorem refTake (s : ByteArray) (bad : Bool) (n : Nat) : coadjutorref03_Eye_Take.f s bad n = some ((takeE s bad n).1, (takeE s bad n).2.2.1, (takeE s bad n).2.2.2) := by
  unfold coadjutorref03_Eye_Take.f coadjutorref03_Eye_fail.f takeE
  cases bad
  · by_cases h : s.size < n
    · rw [if_pos (Or.inr h)]
      simp only [Bool.false_eq_true, if_false, Option.bind_some]
      rw [if_neg (by omega), if_pos (by omega)]
    · rw [if_neg (show ¬ (false = true ∨ s.size < n) by simp; omega)]
      simp only [Bool.false_eq_true, if_false, Option.bind_some]
      rw [if_neg (by omega), if_neg (by omega), if_pos (by omega), if_pos (by omega)]
      simp
  · rw [if_pos (Or.inl rfl)]
    simp

theorem bt_getD (t : ByteArray) (i : Nat) (h : i < t.size) : bt t (i : Int) = ((t.data.toList.getD i 0).toNat : Int) := by
  unfold bt
  have h' : i < t.data.size := h
  rw [dif_pos (by simpa using h), List.getD_eq_getElem?_getD, Array.getElem?_toList, Array.getElem?_eq_getElem h']
  rfl

theorem num_sum (t : ByteArray) (h : t.size = 4) : (wrap64 ((wrap64 ((wrap64 ((wrap64 (bt t 0)) + (wrap64 ((wrap64 (bt t 1)) * 256)))) + (wrap64 ((wrap64 (bt t 2)) * 65536)))) + (wrap64 ((wrap64 (bt t 3)) * 16777216)))) = leV t 4 := by
  have e0 := bt_getD t 0 (by omega)
  have e1 := bt_getD t 1 (by omega)
  have e2 := bt_getD t 2 (by omega)
  have e3 := bt_getD t 3 (by omega)
  have r0 := bt_range t 0
  have r1 := bt_range t 1
  have r2 := bt_range t 2
  have r3 := bt_range t 3
  simp only [leV]
  rw [← e0, ← e1, ← e2, ← e3]
  simp only [Int.natCast_zero, Int.natCast_one, show ((2 : Nat) : Int) = 2 from rfl, show ((3 : Nat) : Int) = 3 from rfl, show (256 : Int) ^ 0 = 1 from rfl, show (256 : Int) ^ 1 = 256 from rfl, show (256 : Int) ^ 2 = 65536 from rfl, show (256 : Int) ^ 3 = 16777216 from rfl]
  generalize bt t 0 = x0 at *
  generalize bt t 1 = x1 at *
  generalize bt t 2 = x2 at *
  generalize bt t 3 = x3 at *
  clear e0 e1 e2 e3
  unfold wrap64
  omega

theorem refNum (s : ByteArray) (bad : Bool) (most : Int) : coadjutorref03_Eye_Num.f s bad most = some ((numE s bad most).1, (numE s bad most).2.1, (numE s bad most).2.2) := by
  unfold coadjutorref03_Eye_Num.f
  have h4 := refTake s bad 4
  rw [show ((4 : Nat) : Int) = 4 from rfl] at h4
  rw [h4]
  simp only [Option.bind_some]
  unfold takeE numE coadjutorref03_Eye_fail.f
  by_cases h : bad = true ∨ s.size < 4
  · rw [if_pos h, if_pos h]
    simp
  · rw [if_neg h, if_neg h]
    have hz : (s.extract 0 4).size = 4 := by have := not_or.1 h; rw [ByteArray.size_extract]; omega
    simp only [Bool.false_eq_true, if_false]
    rw [hz, if_pos (by decide), if_pos (by decide), if_pos (by decide), if_pos (by decide), num_sum _ hz]
    by_cases hm : most < leV (s.extract 0 4) 4
    · rw [if_pos hm, if_pos hm]; rfl
    · rw [if_neg hm, if_neg hm]

theorem numE_bad (s : ByteArray) (bad : Bool) (most : Int) : (numE s bad most).2.2 = true → (numE s bad most).2.1 = ⟨#[]⟩ := by
  unfold numE
  split
  · intro _; rfl
  · split
    · intro _; rfl
    · intro h; simp at h
theorem refText (s : ByteArray) (bad : Bool) (most : Int) : coadjutorref03_Eye_Text.f s bad most = some ((textE s bad most).1, (textE s bad most).2.2.1, (textE s bad most).2.2.2) := by
  unfold coadjutorref03_Eye_Text.f textE
  rw [refNum]
  simp only [Option.bind_some]
  have hp := numE_pos s bad most
  have hb := numE_bad s bad most
  generalize numE s bad most = q at hp hb ⊢
  obtain ⟨n, r, b⟩ := q
  obtain ⟨m, rfl⟩ : ∃ m : Nat, n = m := ⟨n.toNat, by simp at hp; omega⟩
  simp only [Int.toNat_natCast]
  cases b
  · simp only [Bool.false_eq_true, if_false]
    rw [refTake]
    rfl
  · have hr : r = ⟨#[]⟩ := hb rfl
    subst hr
    simp only [if_true, takeE, true_or]

theorem rdS_bad : ∀ k, rdS ⟨#[]⟩ true k = (⟨#[]⟩, true)
  | 0 => rfl
  | k + 1 => by simp [rdS, rdS_bad k, numE]
theorem rdS_add (s : ByteArray) (bad : Bool) (i : Nat) : ∀ k, rdS s bad (i + k) = rdS (rdS s bad i).1 (rdS s bad i).2 k
  | 0 => rfl
  | k + 1 => by rw [← Nat.add_assoc, rdS, rdS_add s bad i k, rdS]
theorem rdL_add (s : ByteArray) (bad : Bool) (i : Nat) : ∀ k, rdL s bad (i + k) = rdL s bad i ++ rdL (rdS s bad i).1 (rdS s bad i).2 k
  | 0 => by simp [rdL]
  | k + 1 => by rw [← Nat.add_assoc, rdL, rdL_add s bad i k, rdS_add s bad i k, rdL, List.append_assoc]

theorem ref_rows_l0 : ∀ (d i : Nat) (s : ByteArray) (bad : Bool) (acc : List Int) (k : Nat), i + d ≤ 32 → (bad = true → s = ⟨#[]⟩) → acc.length ≤ i → d < k →
    ∃ L, coadjutorref29_rows.l0 k ((i + d : Nat) : Int) acc (i : Int) s bad = some (L, (rdS s bad d).1, (rdS s bad d).2) ∧ ((rdS s bad d).2 = false → L = acc ++ rdL s bad d) ∧ L.length ≤ i + d
  | 0, i, s, bad, acc, k, h, hb, ha, hk => by
    obtain ⟨k, rfl⟩ : ∃ m, k = m + 1 := ⟨k - 1, by omega⟩
    refine ⟨acc, ?_, fun _ => by simp [rdL], by omega⟩
    simp only [coadjutorref29_rows.l0]
    rw [if_neg (by omega)]
    rfl
  | d + 1, i, s, bad, acc, k, h, hb, ha, hk => by
    obtain ⟨k, rfl⟩ : ∃ m, k = m + 1 := ⟨k - 1, by omega⟩
    simp only [coadjutorref29_rows.l0]
    rw [if_pos (by omega)]
    cases bad with
    | true =>
      have hs := hb rfl
      subst hs
      rw [if_pos rfl, rdS_bad]
      exact ⟨acc, rfl, fun h => by simp at h, by omega⟩
    | false =>
      rw [if_neg (by simp), refNum]
      simp only [Option.bind_some]
      rw [if_pos (by omega)]
      have hw : wrap64 ((numE s false 4294967295).1 - 2147483648) = (numE s false 4294967295).1 - 2147483648 := by
        have h1 := numE_pos s false 4294967295
        have h2 := numE_le s false 4294967295 (by decide)
        unfold wrap64
        omega
      have hi : wrap64 ((i : Int) + 1) = ((i + 1 : Nat) : Int) := by unfold wrap64; omega
      obtain ⟨L, h1, h2, h3⟩ := ref_rows_l0 d (i + 1) (numE s false 4294967295).2.1 (numE s false 4294967295).2.2 (acc ++ [(numE s false 4294967295).1 - 2147483648]) k (by omega) (numE_bad _ _ _) (by simp; omega) (by omega)
      have e1 : rdS s false (d + 1) = rdS (numE s false 4294967295).2.1 (numE s false 4294967295).2.2 d := by rw [Nat.add_comm, rdS_add]; rfl
      have e2 : rdL s false (d + 1) = [(numE s false 4294967295).1 - 2147483648] ++ rdL (numE s false 4294967295).2.1 (numE s false 4294967295).2.2 d := by rw [Nat.add_comm, rdL_add]; rfl
      rw [hw, hi, show i + (d + 1) = i + 1 + d by omega, h1, e1]
      refine ⟨L, rfl, fun h => ?_, h3⟩
      rw [h2 h, e2, List.append_assoc]

theorem refRows (s : ByteArray) (bad : Bool) : ∃ L, coadjutorref29_rows.f 40 s bad = some (L, (rowE s bad).2.1, (rowE s bad).2.2) ∧ ((rowE s bad).2.2 = false → L = (rowE s bad).1) ∧ L.length ≤ 32 := by
  unfold coadjutorref29_rows.f rowE
  rw [refNum]
  simp only [Option.bind_some]
  have hp := numE_pos s bad 32
  have hl := numE_le s bad 32 (by decide)
  have hb := numE_bad s bad 32
  generalize numE s bad 32 = q at hp hb hl ⊢
  obtain ⟨n, r, b⟩ := q
  obtain ⟨m, rfl⟩ : ∃ m : Nat, n = m := ⟨n.toNat, by simp at hp; omega⟩
  simp only [Int.toNat_natCast] at hl hb ⊢
  obtain ⟨L, h1, h2, h3⟩ := ref_rows_l0 m 0 r b [] 40 (by omega) hb (by simp) (by omega)
  simp only [Nat.zero_add, Int.natCast_zero, List.nil_append] at h1 h2 h3
  exact ⟨L, h1, h2, by omega⟩

theorem sl_of_R {w : World} {base : Nat} {ok : Nat → Prop} {v : Value} {xs : List Int} (h : Kd.R (Kd.int .i64) 3 w base ok v xs) (hl : (xs.length : Int) ≤ 1000000) : Sl w base w.heap.size v xs := by
  obtain ⟨A, c, rfl, hc, hC⟩ := Kd.R_reads h
  obtain ⟨inner, ho⟩ := Kd.R_own h
  refine ⟨hl, A, c, rfl, hc, fun hx => ?_⟩
  have hlow := ho.lt
  obtain ⟨ao, c', he, _, hg⟩ := Go.Proofs.Ytbedamkeeongfaa.Mem.own_slice ho
  obtain ⟨g, e1, e2⟩ := hg hx
  simp only [Value.slice.injEq] at he
  obtain ⟨rfl, _, _⟩ := he
  subst e1
  refine ⟨g, 0, rfl, (hlow g e2).1, (hlow g e2).2, fun j hj => ?_⟩
  obtain ⟨ad, e3, e4⟩ := Kd.at_int hC (j : Int) (by omega) (by omega)
  simp only [Option.some.injEq] at e3
  subst e3
  rw [Addr.add_lit] at e4
  simpa [rd] using e4
end Go.Proofs.Ytbedamkeeongfaa
