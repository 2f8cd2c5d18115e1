/- The reference's Name, Has, has, list and number in plain words. Contract of the reference's Parse. -/
import Derived.Test.YtbedamkeeongfaaOw
import Derived.Test.YtbedamkeeongfaaOj
import Derived.Laws.Rows
import Derived.Test.YtbedamkeeongfaaOu
namespace Go.Proofs.Ytbedamkeeongfaa
open Go.RowKit Go.Proofs.Ytbedamkeeongfaa.Mem Go.Proofs.Ytbedamkeeongfaa.POrderExact Go.Proofs.YtbedamkeeongfaaW.PrintWords Go.Proofs.YtbedamkeeongfaaW.PrintLast Go.Proofs.YtbedamkeeongfaaW.PrintMore
set_option linter.unusedVariables false

/-- what a kind has, as letters -/
def hasB (k : Int) : ByteArray := if k = 1 then ⟨#[105, 110, 112, 100]⟩ else if k = 2 then ⟨#[105]⟩ else if k = 3 then ⟨#[105]⟩ else if k = 5 then ⟨#[110]⟩ else if k = 10 then ⟨#[110]⟩ else if k = 6 then ⟨#[103]⟩ else if k = 7 then ⟨#[116]⟩ else if k = 8 then ⟨#[110, 116]⟩ else ⟨#[]⟩
/-- a letter's field -/
def fieldOf (l : UInt8) : Nat := if l = 105 then 1 else if l = 110 then 2 else if l = 103 then 3 else if l = 112 then 4 else if l = 100 then 5 else 6
/-- the letter of a field -/
def letterOf (f : Nat) : Int := if f = 1 then 105 else if f = 2 then 110 else if f = 3 then 103 else if f = 4 then 112 else if f = 5 then 100 else 116
theorem kinds (k : Int) : k = 1 ∨ k = 2 ∨ k = 3 ∨ k = 5 ∨ k = 10 ∨ k = 6 ∨ k = 7 ∨ k = 8 ∨ (¬ k = 1 ∧ ¬ k = 2 ∧ ¬ k = 3 ∧ ¬ k = 5 ∧ ¬ k = 10 ∧ ¬ k = 6 ∧ ¬ k = 7 ∧ ¬ k = 8) := by omega
theorem has_fields (k : Int) : (hasB k).data.toList.map fieldOf = fieldsOf k := by
  rcases kinds k with rfl | rfl | rfl | rfl | rfl | rfl | rfl | rfl | ⟨h1, h2, h3, h4, h5, h6, h7, h8⟩
  all_goals first | decide | (simp only [hasB, fieldsOf, h1, h2, h3, h4, h5, h6, h7, h8, if_false]; rfl)
theorem hasF (k : Int) : coadjutorref29_Has.f 3 k = some (hasB k) := by
  rcases kinds k with rfl | rfl | rfl | rfl | rfl | rfl | rfl | rfl | ⟨h1, h2, h3, h4, h5, h6, h7, h8⟩
  all_goals first | rfl | (simp [coadjutorref29_Has.f, coadjutorref29_Has.j0, coadjutorref29_Has.j1, hasB, h1, h2, h3, h4, h5, h6, h7, h8]; done)
theorem has_calls (k : Int) (w : World) : Calls Try.prog 18 #[.int .i64 k] w fun e w' => e = .returned (.string (hasB k)) ∧ Below w.heap.size w w' :=
  (coadjutorref29_Has.calls 3 k _ w (hasF k)).mono fun e w' ⟨h1, h2⟩ => ⟨h1, h2.below⟩
theorem has1F (k : Int) (f : Nat) (hf : f = 1 ∨ f = 2 ∨ f = 3 ∨ f = 4 ∨ f = 5 ∨ f = 6) : coadjutorref29_has.f 8 k (letterOf f) = some (decide (f ∈ fieldsOf k)) := by
  unfold coadjutorref29_has.f
  have hh : coadjutorref29_Has.f 8 k = some (hasB k) := at_rounds (coadjutorref29_Has.mono k) (by decide) (hasF k)
  rw [hh]
  simp only [Option.bind_some]
  rcases kinds k with rfl | rfl | rfl | rfl | rfl | rfl | rfl | rfl | ⟨h1, h2, h3, h4, h5, h6, h7, h8⟩
  all_goals first | (rcases hf with rfl | rfl | rfl | rfl | rfl | rfl <;> decide +kernel) | (rw [show hasB k = ⟨#[]⟩ by simp only [hasB, h1, h2, h3, h4, h5, h6, h7, h8, if_false], show fieldsOf k = [] by simp only [fieldsOf, h1, h2, h3, h4, h5, h6, h7, h8, if_false]]; rw [coadjutorref29_has.l0, if_neg (by decide)]; simp)
theorem has1_calls (k : Int) (f : Nat) (hf : f = 1 ∨ f = 2 ∨ f = 3 ∨ f = 4 ∨ f = 5 ∨ f = 6) (x : Int) (hx : letterOf f = x) (w : World) : Calls Try.prog 25 #[.int .i64 k, .int .u8 x] w fun e w' => e = .returned (.bool (decide (f ∈ fieldsOf k))) ∧ Drawn0 w w' := by
  subst hx
  exact coadjutorref29_has.calls 8 k _ _ w (has1F k f hf)
theorem refnum_calls (n : Int) (w : World) : Calls Try.prog 24 #[.int .i64 n] w fun e w' => e = .returned (.bool (numB n)) ∧ Drawn0 w w' := by
  refine coadjutorref29_number.calls n _ w ?_
  unfold coadjutorref29_number.f numB
  by_cases h : n ≥ -2147483648
  · rw [if_pos h]
    simp only [Option.some.injEq]
    rw [Bool.eq_iff_iff]
    simp
    omega
  · rw [if_neg h]
    simp only [Option.some.injEq]
    rw [Bool.eq_iff_iff]
    simp
    omega
theorem numF (n : Int) : coadjutorref29_number.f n = some (numB n) := by
  unfold coadjutorref29_number.f numB
  by_cases h : n ≥ -2147483648
  · rw [if_pos h]
    simp only [Option.some.injEq]
    rw [Bool.eq_iff_iff]
    simp
    omega
  · rw [if_neg h]
    simp only [Option.some.injEq]
    rw [Bool.eq_iff_iff]
    simp
    omega
/-- whether a row can be, where it is or is not -/
def listB (xs : List Int) (is : Bool) : Bool := rowOk xs && (is || decide (xs = []))
theorem list_l0 (xs : List Int) (is : Bool) (hl : (xs.length : Int) ≤ 1000000) : ∀ (d i k : Nat), i + d = xs.length → d < k → coadjutorref29_list.l0 k xs is i = some ((xs.drop i).all numB && (decide ((xs.length : Int) ≤ 32) && (is || decide (xs = []))))
  | 0, i, k, h, hk => by
    obtain ⟨k, rfl⟩ : ∃ m, k = m + 1 := ⟨k - 1, by omega⟩
    simp only [coadjutorref29_list.l0]
    rw [if_neg (by omega), List.drop_eq_nil_of_le (by omega)]
    have he : ((xs.length : Int) == 0) = decide (xs = []) := by
      rw [Bool.eq_iff_iff]
      simp
    by_cases h32 : (xs.length : Int) ≤ 32
    · rw [if_pos h32, decide_eq_true h32, he]
      cases is <;> simp
    · rw [if_neg h32, decide_eq_false h32]
      simp
  | d + 1, i, k, h, hk => by
    obtain ⟨k, rfl⟩ : ∃ m, k = m + 1 := ⟨k - 1, by omega⟩
    simp only [coadjutorref29_list.l0]
    have hi : wrap64 ((i : Int) + 1) = ((i + 1 : Nat) : Int) := by unfold wrap64; omega
    have hx : i < xs.length := by omega
    rw [if_pos (by omega), if_pos (by omega), numF, hi]
    simp only [Option.bind_some]
    have hr : rd xs (i : Int) = xs[i] := by simp [rd, List.getD_eq_getElem?_getD, hx]
    rw [hr, List.drop_eq_getElem_cons hx, list_l0 xs is hl d (i + 1) k (by omega) (by omega), List.all_cons]
    cases numB xs[i] <;> simp
theorem list_calls (A B : Nat) (v : Value) (xs : List Int) (is : Bool) (w : World) (h : Sl w A B v xs) :
    Calls Try.prog 26 #[v, .bool is] w fun e w' => e = .returned (.bool (listB xs is)) ∧ Drawn0 w w' := by
  have hl := h.1
  obtain ⟨a, c, rfl, h1, h2⟩ := h.reads
  refine coadjutorref29_list.calls (xs.length + 1) a c xs is _ w h2 h1 ?_
  unfold coadjutorref29_list.f
  have := list_l0 xs is hl xs.length 0 (xs.length + 1) (by omega) (by omega)
  simp only [Int.natCast_zero, List.drop_zero] at this
  rw [this, listB, rowOk]
  cases xs.all numB <;> cases decide ((xs.length : Int) ≤ 32) <;> rfl

set_option maxRecDepth 100000 in
set_option maxHeartbeats 1000000 in
theorem refname_calls (k : Int) (w : World) : Calls Try.prog 13 #[.int .i64 k] w fun e w' => e = .returned (.string (nameB k)) ∧ Below w.heap.size w w' := by
  by_cases h1 : k < 1
  · rw [nameB_empty k (.inl h1)]
    go_enter Try.func13, Try.ntmps13
    go_wp2
    go_ret
    exact ⟨rfl, (Below.refl _ w).alloc (Nat.le_refl _) _⟩
  by_cases h2 : 13 < k
  · rw [nameB_empty k (.inr h2)]
    go_enter Try.func13, Try.ntmps13
    go_wp2
    go_ret
    exact ⟨rfl, (Below.refl _ w).alloc (Nat.le_refl _) _⟩
  rcases (by omega : k = 1 ∨ k = 2 ∨ k = 3 ∨ k = 4 ∨ k = 5 ∨ k = 6 ∨ k = 7 ∨ k = 8 ∨ k = 9 ∨ k = 10 ∨ k = 11 ∨ k = 12 ∨ k = 13) with rfl | rfl | rfl | rfl | rfl | rfl | rfl | rfl | rfl | rfl | rfl | rfl | rfl
  all_goals
    clear h1 h2
    go_enter Try.func13, Try.ntmps13
    go_wp2
    go_ret
    exact ⟨rfl, (Below.refl _ w).alloc (Nat.le_refl _) _⟩
end Go.Proofs.Ytbedamkeeongfaa

namespace Go.Proofs.Ytbedamkeeongfaa
open Go.RowKit Go.Proofs.Ytbedamkeeongfaa.Mem Go.Proofs.Ytbedamkeeongfaa.POrderExact Go.Proofs.YtbedamkeeongfaaW.PrintWords Go.Proofs.YtbedamkeeongfaaW.PrintLast Go.Proofs.YtbedamkeeongfaaW.PrintMore
set_option linter.unusedVariables false

/-- letters read -/
def Rd.letters (x : Rd) (l : List UInt8) : Rd := x.steps (l.map fieldOf)
theorem letters_snoc (x : Rd) (l : List UInt8) (c : UInt8) : x.letters (l ++ [c]) = (x.letters l).step (fieldOf c) := by simp [Rd.letters, Rd.steps]

/-- what the loop of Parse keeps: the eye in block g, the command in block m; while nothing is bad, the command is what was read -/
structure PI (w : World) (N g m : Nat) (x : Rd) (c : Cmd) (p d : Value) (wr : World) : Prop where
  eye : IsS78 w wr g x.s x.bad
  bel : Below w.heap.size w wr
  val : wr.heap[m]? = some (.cells (c.vals p d) 27 (0, 0))
  pr : Sl wr (m + 1) wr.heap.size p c.pr
  dr : Sl wr (m + 1) wr.heap.size d c.dr
  good : x.bad = false → x.c = c
  kind : c.kind = x.c.kind
  res : wr.heap[N]? = some (.cells (Cmd.zero.vals (.slice none 0 0) (.slice none 0 0)) 27 (0, 0))
  ne : g < m ∧ N < g
  wrong : x.wrong = false

theorem Sl.keepBut {w w' : World} {m g : Nat} {v : Value} {xs : List Int} (h : Sl w (m + 1) w.heap.size v xs) (hk : KeepBut w w' g none) (hg : g < m) : Sl w' (m + 1) w'.heap.size v xs :=
  h.move (Nat.le_refl _) hk.1 (fun k h1 h2 => hk.2 k h2 (by omega) (by simp))

theorem PI.put {w : World} {N g m : Nat} {x x' : Rd} {c c' : Cmd} {p d p' d' v : Value} {wr w' : World} {f : Nat} (h : PI w N g m x c p d wr) (hi : IsS78 w w' g x'.s x'.bad) (hb : Below w.heap.size w w') (hk : KeepBut wr w' g none)
    (hset : (c.vals p d).setIfInBounds f v = c'.vals p' d') (hp' : Sl w' (m + 1) w'.heap.size p' c'.pr) (hd' : Sl w' (m + 1) w'.heap.size d' c'.dr) (hc : x'.bad = false → x'.c = c') (hkd : c'.kind = x'.c.kind) (hw : x'.wrong = false) (hN : w.heap.size ≤ m) :
    PI w N g m x' c' p' d' (w'.setCell ⟨m, f, none⟩ v) := by
  have hm := lt_of_block h.val
  have hne := h.ne
  have hv : w'.heap[m]? = some (.cells (c.vals p d) 27 (0, 0)) := (hk.2 m hm (by omega) (by simp)).trans h.val
  have hr : w'.heap[N]? = some (.cells (Cmd.zero.vals (.slice none 0 0) (.slice none 0 0)) 27 (0, 0)) := (hk.2 N (lt_of_block h.res) (by omega) (by simp)).trans h.res
  have hsz : (w'.setCell ⟨m, f, none⟩ v).heap.size = w'.heap.size := by simp [World.setCell]
  have hmv : ∀ k, m + 1 ≤ k → k < w'.heap.size → (w'.setCell ⟨m, f, none⟩ v).heap[k]? = w'.heap[k]? := fun k h1 _ => Below.heap_setCell _ _ _ _ (by simp; omega)
  refine ⟨hi.far (by simp; omega) _, hb.setCell (p := ⟨m, f, none⟩) hN _, by rw [← hset]; exact heap_set hv f v, hp'.move (Nat.le_refl _) (Nat.le_of_eq hsz.symm) hmv, hd'.move (Nat.le_refl _) (Nat.le_of_eq hsz.symm) hmv, hc, hkd, (Below.heap_setCell _ _ _ _ (by simp; omega)).trans hr, hne, hw⟩

theorem numE_mono (s : ByteArray) (bad : Bool) (m : Int) : (numE s bad m).2.2 = false → bad = false := by
  unfold numE
  cases bad
  · intro _; rfl
  · simp
theorem takeE_mono (s : ByteArray) (bad : Bool) (n : Nat) : (takeE s bad n).2.2.2 = false → bad = false := by
  unfold takeE
  cases bad
  · intro _; rfl
  · simp
theorem rdS_mono (s : ByteArray) (bad : Bool) : ∀ k, (rdS s bad k).2 = false → bad = false
  | 0 => id
  | k + 1 => fun h => rdS_mono s bad k (numE_mono _ _ _ h)
theorem step_mono (x : Rd) (f : Nat) : (x.step f).bad = false → x.bad = false := by
  unfold Rd.step
  repeat' split
  all_goals intro h
  · exact numE_mono _ _ _ h
  · exact numE_mono _ _ _ h
  · exact takeE_mono _ _ _ h
  · exact numE_mono _ _ _ (rdS_mono _ _ _ h)
  · exact numE_mono _ _ _ (rdS_mono _ _ _ h)
  · exact numE_mono _ _ _ (takeE_mono _ _ _ h)
theorem step_wrong (x : Rd) (f : Nat) : (x.step f).wrong = false → x.wrong = false := by
  unfold Rd.step
  repeat' split
  all_goals intro h
  all_goals first | exact h | (cases hx : x.wrong <;> simp_all)
theorem steps_mono (fs : List Nat) : ∀ x : Rd, (x.steps fs).bad = false → x.bad = false := by
  induction fs with
  | nil => exact fun x h => h
  | cons f r ih => exact fun x h => step_mono x f (ih (x.step f) h)
theorem steps_wrong (fs : List Nat) : ∀ x : Rd, (x.steps fs).wrong = false → x.wrong = false := by
  induction fs with
  | nil => exact fun x h => h
  | cons f r ih => exact fun x h => step_wrong x f (ih (x.step f) h)
theorem step_kind (x : Rd) (f : Nat) : (x.step f).c.kind = x.c.kind := by
  unfold Rd.step
  repeat' split
  all_goals rfl
theorem letters_take (x : Rd) (H : ByteArray) (j : Nat) (h : j < H.size) : x.letters (H.data.toList.take (j + 1)) = (x.letters (H.data.toList.take j)).step (fieldOf (H[j]'h)) := by
  rw [List.take_add_one, List.getElem?_eq_getElem (show j < H.data.toList.length by simpa using h)]
  exact letters_snoc _ _ _
theorem letters_after (x : Rd) (H : ByteArray) (j : Nat) : ∃ fs, x.letters H.data.toList = (x.letters (H.data.toList.take j)).steps fs := by
  refine ⟨(H.data.toList.drop j).map fieldOf, ?_⟩
  simp only [Rd.letters, Rd.steps, List.map_take, List.map_drop]
  rw [← List.foldl_append, List.take_append_drop]
theorem has_letters (k : Int) (j : Nat) (h : j < (hasB k).size) : ((hasB k)[j]'h).toNat = 105 ∨ ((hasB k)[j]'h).toNat = 110 ∨ ((hasB k)[j]'h).toNat = 103 ∨ ((hasB k)[j]'h).toNat = 112 ∨ ((hasB k)[j]'h).toNat = 100 ∨ ((hasB k)[j]'h).toNat = 116 := by
  have hall : ∀ c ∈ (hasB k).data.toList, c.toNat = 105 ∨ c.toNat = 110 ∨ c.toNat = 103 ∨ c.toNat = 112 ∨ c.toNat = 100 ∨ c.toNat = 116 := by
    rcases kinds k with rfl | rfl | rfl | rfl | rfl | rfl | rfl | rfl | ⟨h1, h2, h3, h4, h5, h6, h7, h8⟩
    all_goals first | decide | (rw [show hasB k = ⟨#[]⟩ by simp only [hasB, h1, h2, h3, h4, h5, h6, h7, h8, if_false]]; decide)
  exact hall _ (by simp [ByteArray.getElem_eq_getElem_data])
theorem has_size (k : Int) : (hasB k).size ≤ 4 := by
  rcases kinds k with rfl | rfl | rfl | rfl | rfl | rfl | rfl | rfl | ⟨h1, h2, h3, h4, h5, h6, h7, h8⟩
  all_goals first | decide | (rw [show hasB k = ⟨#[]⟩ by simp only [hasB, h1, h2, h3, h4, h5, h6, h7, h8, if_false]]; decide)
theorem fieldOf_toNat (c : UInt8) (n : Nat) (h : c.toNat = n) (hn : n < 256) : fieldOf c = fieldOf (UInt8.ofNat n) := by
  have : c = UInt8.ofNat n := by
    apply UInt8.toNat_inj.1
    rw [h, UInt8.toNat_ofNat', Nat.mod_eq_of_lt (by omega)]
  rw [this]
theorem steps_kind (fs : List Nat) : ∀ x : Rd, (x.steps fs).c.kind = x.c.kind := by
  induction fs with
  | nil => exact fun x => rfl
  | cons f r ih => exact fun x => (ih (x.step f)).trans (step_kind x f)
theorem letters_kind (x : Rd) (l : List UInt8) : (x.letters l).c.kind = x.c.kind := steps_kind _ x
theorem ext1 (s : ByteArray) (h : 1 ≤ s.size) : s.extract 0 1 = ⟨#[s.data.toList.getD 0 0]⟩ := by
  apply oext
  rw [Lib.extract_data]
  have hl : 0 < s.data.toList.length := by rw [Array.length_toList]; exact h
  cases e : s.data.toList with
  | nil => rw [e] at hl; simp at hl
  | cons a l => simp
end Go.Proofs.Ytbedamkeeongfaa
