/- Decoding inverts encoding, in plain words: what Parse reads of a command's bytes is that command. No statement is proved here. -/
import Derived.Test.YtbedamkeeongfaaOt
import Derived.Test.YtbedamkeeongfaaOk
namespace Go.Proofs.Ytbedamkeeongfaa
open Go.RowKit Go.Proofs.Ytbedamkeeongfaa.Mem
set_option linter.unusedVariables false

/-- bytes as a string -/
def bs (l : List UInt8) : ByteArray := ⟨l.toArray⟩
theorem bs_size (l : List UInt8) : (bs l).size = l.length := by simp [bs, ByteArray.size]
theorem bs_list (l : List UInt8) : (bs l).data.toList = l := by simp [bs]
theorem bs_of (t : ByteArray) : bs t.data.toList = t := oext (by simp [bs])
theorem bs_inj {a b : List UInt8} (h : bs a = bs b) : a = b := by
  have := congrArg (fun t : ByteArray => t.data.toList) h
  simpa [bs] using this
theorem extract_list (t : ByteArray) (i j : Nat) : (t.extract i j).data.toList = (t.data.toList.take j).drop i := by
  rw [ByteArray.data_extract, Array.toList_extract, List.extract_eq_take_drop, List.drop_take]
theorem bs_head (x r : List UInt8) : (bs (x ++ r)).extract 0 x.length = bs x := oext (by rw [extract_list]; simp [bs])
theorem bs_tail (x r : List UInt8) : (bs (x ++ r)).extract x.length (bs (x ++ r)).size = bs r := oext (by rw [extract_list, bs_size, bs_list, bs_list, List.take_of_length_le (Nat.le_refl _), List.drop_left])

theorem takeE_bs (x r : List UInt8) (n : Nat) (hn : n = x.length) : takeE (bs (x ++ r)) false n = (bs x, true, bs r, false) := by
  subst hn
  unfold takeE
  rw [if_neg (by rw [bs_size]; simp), bs_head, bs_tail]

theorem le4_len (n : Int) : (le4 n).length = 4 := rfl
theorem leV_le4 (n : Int) (h0 : 0 ≤ n) (h1 : n < 4294967296) : leV (bs (le4 n)) 4 = n := by
  have e0 := b4_val n h0 0
  have e1 := b4_val n h0 1
  have e2 := b4_val n h0 2
  have e3 := b4_val n h0 3
  simp only [leV, bs_list, le4, List.getD_cons_zero, List.getD_cons_succ]
  rw [e0, e1, e2, e3]
  simp only [Int.pow_zero, Int.pow_one, Int.ediv_one, (by decide : (256 : Int) ^ 1 = 256), (by decide : (256 : Int) ^ 2 = 65536), (by decide : (256 : Int) ^ 3 = 16777216)]
  omega

theorem numE_bs (n most : Int) (r : List UInt8) (h0 : 0 ≤ n) (h1 : n < 4294967296) (hm : n ≤ most) : numE (bs (le4 n ++ r)) false most = (n, bs r, false) := by
  have e1 : (bs (le4 n ++ r)).extract 0 4 = bs (le4 n) := bs_head (le4 n) r
  have e2 : (bs (le4 n ++ r)).extract 4 (bs (le4 n ++ r)).size = bs r := bs_tail (le4 n) r
  unfold numE
  rw [if_neg (by rw [bs_size]; simp [le4_len]), e1, leV_le4 n h0 h1, if_neg (by omega), e2]

theorem rd_bs (xs : List Int) (r : List UInt8) (hin : ∀ n ∈ xs, -2147483648 ≤ n ∧ n < 2147483648) : ∀ k, k ≤ xs.length → rdS (bs (rowB xs ++ r)) false k = (bs (rowB (xs.drop k) ++ r), false) ∧ rdL (bs (rowB xs ++ r)) false k = xs.take k := by
  intro k
  induction k with
  | zero => intro _; exact ⟨by rw [rdS, List.drop_zero], by rw [rdL, List.take_zero]⟩
  | succ k ih =>
    intro hk
    obtain ⟨h1, h2⟩ := ih (by omega)
    obtain ⟨x, hxk⟩ : ∃ x, xs[k]? = some x := ⟨xs[k]'(by omega), List.getElem?_eq_getElem _⟩
    have hx := hin x (List.mem_of_getElem? hxk)
    have hd : xs.drop k = x :: xs.drop (k + 1) := by
      obtain ⟨hlt, e⟩ := List.getElem?_eq_some_iff.1 hxk
      rw [← e, List.drop_eq_getElem_cons hlt]
    have ht : xs.take (k + 1) = xs.take k ++ [x] := by rw [List.take_add_one, hxk]; rfl
    have hn := numE_bs (x + 2147483648) 4294967295 (rowB (xs.drop (k + 1)) ++ r) (by omega) (by omega) (by omega)
    have hr : rowB (xs.drop k) ++ r = le4 (x + 2147483648) ++ (rowB (xs.drop (k + 1)) ++ r) := by
      rw [hd, rowB, List.append_assoc]
    constructor
    · rw [rdS, h1]
      dsimp only
      rw [hr, hn]
    · rw [rdL, h1, h2, ht]
      dsimp only
      rw [hr, hn, Int.add_sub_cancel]

theorem rowE_bs (xs : List Int) (r : List UInt8) (hl : (xs.length : Int) ≤ 32) (hin : ∀ n ∈ xs, -2147483648 ≤ n ∧ n < 2147483648) : rowE (bs (le4 xs.length ++ rowB xs ++ r)) false = (xs, bs r, false) := by
  have h := rd_bs xs r hin xs.length (Nat.le_refl _)
  rw [List.drop_length, List.take_length, rowB, List.nil_append] at h
  unfold rowE
  rw [List.append_assoc, numE_bs _ 32 _ (by omega) (by omega) hl]
  dsimp only
  rw [Int.toNat_natCast, h.1, h.2]

theorem textE_bs (s : ByteArray) (most : Int) (r : List UInt8) (hl : (s.size : Int) ≤ most) (h4 : (s.size : Int) < 4294967296) : textE (bs (txB s ++ r)) false most = (s, true, bs r, false) := by
  unfold textE txB
  rw [List.append_assoc, numE_bs _ most _ (by omega) h4 hl]
  simp only [Int.toNat_natCast]
  rw [takeE_bs _ _ _ (by rfl), bs_of]

/-- a field put -/
def Cmd.put (c c0 : Cmd) (f : Nat) : Cmd :=
  if f = 1 then { c0 with id := c.id } else if f = 2 then { c0 with n := c.n } else if f = 3 then { c0 with good := c.good } else if f = 4 then { c0 with pr := c.pr } else if f = 5 then { c0 with dr := c.dr } else { c0 with data := c.data }

theorem step_bs (c c0 : Cmd) (hf : Fit c) (wr : Bool) (f : Nat) (r : List UInt8) : Rd.step ⟨bs (encF c f ++ r), false, wr, c0⟩ f = ⟨bs r, false, wr, c.put c0 f⟩ := by
  unfold Rd.step encF Cmd.put
  by_cases h1 : f = 1
  · simp only [if_pos h1]
    have := hf.id
    rw [numE_bs _ _ _ (by omega) (by omega) (by omega), Int.add_sub_cancel]
  by_cases h2 : f = 2
  · simp only [if_neg h1, if_pos h2]
    have := hf.n
    rw [numE_bs _ _ _ (by omega) (by omega) (by omega), Int.add_sub_cancel]
  by_cases h3 : f = 3
  · simp only [if_neg h1, if_neg h2, if_pos h3]
    rw [takeE_bs _ _ 1 rfl]
    have hb : byteE (bs ([if c.good = true then 1 else 0] ++ r)) false = if c.good = true then 1 else 0 := by
      unfold byteE
      rw [if_neg (by rw [bs_size]; simp), bs_list]
      cases c.good <;> simp
    rw [hb]
    cases c.good <;> simp
  by_cases h4 : f = 4
  · simp only [if_neg h1, if_neg h2, if_neg h3, if_pos h4]
    rw [rowE_bs c.pr r hf.pl hf.pr]
  by_cases h5 : f = 5
  · simp only [if_neg h1, if_neg h2, if_neg h3, if_neg h4, if_pos h5]
    rw [rowE_bs c.dr r hf.dl hf.dr]
  have hd := hf.data
  simp only [if_neg h1, if_neg h2, if_neg h3, if_neg h4, if_neg h5]
  rw [textE_bs c.data 1024 r hd (by omega)]

theorem steps_bs (c : Cmd) (hf : Fit c) (wr : Bool) : ∀ (fs : List Nat) (c0 : Cmd) (r : List UInt8), Rd.steps ⟨bs (encFs c fs ++ r), false, wr, c0⟩ fs = ⟨bs r, false, wr, fs.foldl c.put c0⟩
  | [], c0, r => rfl
  | f :: fs, c0, r => by
    have h : encFs c (f :: fs) ++ r = encF c f ++ (encFs c fs ++ r) := by simp [encFs]
    have h2 := steps_bs c hf wr fs (c.put c0 f) r
    unfold Rd.steps at h2 ⊢
    rw [List.foldl_cons, h, step_bs c c0 hf wr f, h2]
    rfl

theorem good_kind {c : Cmd} (h : goodP c) : UInt8.ofNat (c.kind % 256).toNat = UInt8.ofNat c.kind.toNat := by
  obtain ⟨⟨h1, h2⟩, _⟩ := h
  rw [Int.emod_eq_of_lt (by omega) (by omega)]

theorem byteE_enc {c : Cmd} (h : goodP c) : (byteE (bs (enc c)) false : Int) = c.kind := by
  have hk := good_kind h
  obtain ⟨⟨h1, h2⟩, _⟩ := h
  unfold byteE enc
  rw [if_neg (by rw [bs_size]; simp), bs_list, hk]
  simp only [List.getD_cons_zero, UInt8.toNat_ofNat']
  omega

theorem put_all {c : Cmd} (h : goodP c) : (fieldsOf c.kind).foldl c.put ⟨c.kind, 0, 0, false, [], [], ⟨#[]⟩⟩ = c := by
  obtain ⟨_, hr, _⟩ := h
  obtain ⟨k, i, n, g, p, d, t⟩ := c
  unfold Cmd.rest at hr
  simp only [Cmd.mk.injEq, true_and] at hr
  obtain ⟨e1, e2, e3, e4, e5, e6⟩ := hr
  simp only
  rcases fields_cases k with hk | hk | hk | hk | hk | hk | hk <;> rw [hk] at e1 e2 e3 e4 e5 e6 ⊢ <;> simp at e1 e2 e3 e4 e5 e6 <;> simp [Cmd.put, *]

theorem rdP_enc {c : Cmd} (h : goodP c) : rdP (bs (enc c)) = ⟨bs [], false, false, c⟩ := by
  have hb := byteE_enc h
  have ht : takeE (bs (enc c)) false 1 = (bs [UInt8.ofNat (c.kind % 256).toNat], true, bs (encFs c (fieldsOf c.kind)), false) := takeE_bs [UInt8.ofNat (c.kind % 256).toNat] (encFs c (fieldsOf c.kind)) 1 rfl
  have hs := steps_bs c h.fit false (fieldsOf c.kind) ⟨c.kind, 0, 0, false, [], [], ⟨#[]⟩⟩ []
  rw [List.append_nil, put_all h] at hs
  unfold rdP rd0
  rw [hb, ht]
  exact hs

theorem parseP_enc {c : Cmd} (h : goodP c) : parseP (bs (enc c)) := by
  have hb := byteE_enc h
  unfold parseP
  rw [rdP_enc h, hb]
  exact ⟨rfl, rfl, rfl, h.1.1, h.1.2⟩

theorem enc_inj {c c' : Cmd} (h : goodP c) (h' : goodP c') : bs (enc c) = bs (enc c') ↔ c = c' :=
  ⟨fun e => by
    have h1 := rdP_enc h
    rw [e, rdP_enc h'] at h1
    injection h1 with _ _ _ h2
    exact h2.symm, fun e => by rw [e]⟩
end Go.Proofs.Ytbedamkeeongfaa
