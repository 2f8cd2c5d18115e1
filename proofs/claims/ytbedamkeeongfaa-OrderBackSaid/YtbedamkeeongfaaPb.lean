/- The reference's Bytes are the command's bytes; the law's alike in plain words. -/
import Derived.Test.YtbedamkeeongfaaOy
import Derived.Test.YtbedamkeeongfaaOj
namespace Go.Proofs.Ytbedamkeeongfaa
open Go.RowKit Go.Proofs.Ytbedamkeeongfaa.Mem Go.Proofs.Ytbedamkeeongfaa.POrderExact Go.Proofs.YtbedamkeeongfaaW.PrintWords Go.Proofs.YtbedamkeeongfaaW.PrintLast Go.Proofs.YtbedamkeeongfaaW.PrintMore
set_option linter.unusedVariables false

noncomputable instance : DecidableEq Cmd := fun _ _ => Classical.propDecidable _

theorem strOf4 (a b c d : Int) : (strOfNums [a, b, c, d]).data.toList = [UInt8.ofNat a.toNat, UInt8.ofNat b.toNat, UInt8.ofNat c.toNat, UInt8.ofNat d.toNat] := by
  simp [strOfNums]
theorem refNumW (n : Int) (h0 : 0 ≤ n) (h1 : n < 4294967296) : ∃ t, coadjutorref03_Num.f n = some (t, true) ∧ t.data.toList = le4 n := by
  unfold coadjutorref03_Num.f
  rw [if_neg (by omega), if_neg (by omega)]
  refine ⟨_, rfl, ?_⟩
  rw [strOf4]
  have e : ∀ i : Nat, i ≤ 3 → ∀ x : Int, x = n / 256 ^ i % 256 → UInt8.ofNat x.toNat = b4 n i := by
    intro i hi x hx
    apply UInt8.toNat_inj.1
    have hv := b4_val n h0 i
    have hb : 0 ≤ n / 256 ^ i % 256 ∧ n / 256 ^ i % 256 < 256 := by
      constructor
      · exact Int.emod_nonneg _ (by decide)
      · exact Int.emod_lt_of_pos _ (by decide)
    rw [UInt8.toNat_ofNat', Nat.mod_eq_of_lt (by omega)]
    omega
  have t0 : Int.tmod n 256 = n % 256 := Int.tmod_eq_emod_of_nonneg h0
  have t1 : Int.tdiv n 256 = n / 256 := Int.tdiv_eq_ediv_of_nonneg h0
  have t2 : Int.tdiv n 65536 = n / 65536 := Int.tdiv_eq_ediv_of_nonneg h0
  have t3 : Int.tdiv n 16777216 = n / 16777216 := Int.tdiv_eq_ediv_of_nonneg h0
  have w1 : wrap64 (n / 256) = n / 256 := by unfold wrap64; omega
  have w2 : wrap64 (n / 65536) = n / 65536 := by unfold wrap64; omega
  have w3 : wrap64 (n / 16777216) = n / 16777216 := by unfold wrap64; omega
  rw [t0, t1, t2, t3, w1, w2, w3, Int.tmod_eq_emod_of_nonneg (show 0 ≤ n / 256 by omega), Int.tmod_eq_emod_of_nonneg (show 0 ≤ n / 65536 by omega)]
  unfold le4
  rw [e 0 (by decide) _ (by simp), e 1 (by decide) _ (by simp), e 2 (by decide) _ (by simp), e 3 (by decide) _ (by simp)]
theorem refnumF (n : Int) (h : -2147483648 ≤ n ∧ n < 2147483648) : ∃ t, coadjutorref29_num.f n = some t ∧ t.data.toList = le4 (n + 2147483648) := by
  obtain ⟨t, h1, h2⟩ := refNumW (n + 2147483648) (by omega) (by omega)
  refine ⟨t, ?_, h2⟩
  unfold coadjutorref29_num.f
  rw [show wrap64 (n + 2147483648) = n + 2147483648 by unfold wrap64; omega, h1]
  rfl
theorem size_data (t : ByteArray) : t.size = t.data.toList.length := by rw [Array.length_toList]; rfl
theorem app_data (a b : ByteArray) : (a ++ b).data.toList = a.data.toList ++ b.data.toList := by simp
theorem row_l0 (xs : List Int) (hin : ∀ n ∈ xs, -2147483648 ≤ n ∧ n < 2147483648) (hl : (xs.length : Int) ≤ 32) : ∀ (d i k : Nat) (acc : ByteArray), i + d = xs.length → d < k → acc.size ≤ 4 + 4 * i → ∃ t, coadjutorref29_row.l0 k xs acc i = some t ∧ t.data.toList = acc.data.toList ++ rowB (xs.drop i)
  | 0, i, k, acc, h, hk, ha => by
    obtain ⟨k, rfl⟩ : ∃ m, k = m + 1 := ⟨k - 1, by omega⟩
    refine ⟨acc, ?_, by rw [List.drop_eq_nil_of_le (by omega)]; simp [rowB]⟩
    simp only [coadjutorref29_row.l0]
    rw [if_neg (by omega)]
  | d + 1, i, k, acc, h, hk, ha => by
    obtain ⟨k, rfl⟩ : ∃ m, k = m + 1 := ⟨k - 1, by omega⟩
    have hx : i < xs.length := by omega
    have hr : rd xs (i : Int) = xs[i] := by simp [rd, List.getD_eq_getElem?_getD, hx]
    obtain ⟨t, h1, h2⟩ := refnumF xs[i] (hin _ (List.getElem_mem hx))
    have hts : t.size = 4 := by rw [size_data, h2]; rfl
    simp only [coadjutorref29_row.l0]
    rw [if_pos (by omega), if_pos (by omega), hr, h1]
    simp only [Option.bind_some]
    rw [if_pos (by omega), show wrap64 ((i : Int) + 1) = ((i + 1 : Nat) : Int) by unfold wrap64; omega]
    obtain ⟨u, h3, h4⟩ := row_l0 xs hin hl d (i + 1) k (acc ++ t) (by omega) (by omega) (by rw [ByteArray.size_append]; omega)
    refine ⟨u, h3, ?_⟩
    rw [h4, List.drop_eq_getElem_cons hx, rowB, app_data, h2, List.append_assoc]
theorem refrowF (xs : List Int) (hin : ∀ n ∈ xs, -2147483648 ≤ n ∧ n < 2147483648) (hl : (xs.length : Int) ≤ 32) (k : Nat) (hk : 33 ≤ k) : ∃ t, coadjutorref29_row.f k xs = some t ∧ t.data.toList = le4 xs.length ++ rowB xs := by
  unfold coadjutorref29_row.f
  obtain ⟨t, h1, h2⟩ := refNumW xs.length (by omega) (by omega)
  rw [h1]
  simp only [Option.bind_some]
  have hts : t.size = 4 := by rw [size_data, h2]; rfl
  obtain ⟨u, h3, h4⟩ := row_l0 xs hin hl xs.length 0 k t (by omega) (by omega) (by omega)
  simp only [Int.natCast_zero, List.drop_zero] at h3 h4
  exact ⟨u, h3, by rw [h4, h2]⟩
theorem reftextF (s : ByteArray) (hs : (s.size : Int) ≤ 1024) : ∃ t, coadjutorref03_Text.f s = some t ∧ t.data.toList = txB s := by
  unfold coadjutorref03_Text.f
  obtain ⟨t, h1, h2⟩ := refNumW s.size (by omega) (by omega)
  rw [h1]
  simp only [Option.bind_some]
  have hts : t.size = 4 := by rw [size_data, h2]; rfl
  rw [if_pos (by omega)]
  exact ⟨_, rfl, by rw [app_data, h2]; rfl⟩

/-- one letter's bytes are its field's -/
theorem bytes_l0 (c : Cmd) (hf : Fit c) (H : ByteArray) (hH : H.size ≤ 4) (hlet : ∀ j (h : j < H.size), (H[j]'h).toNat = 105 ∨ (H[j]'h).toNat = 110 ∨ (H[j]'h).toNat = 103 ∨ (H[j]'h).toNat = 112 ∨ (H[j]'h).toNat = 100 ∨ (H[j]'h).toNat = 116) :
    ∀ (d i k : Nat) (acc : ByteArray), i + d = H.size → d + 40 ≤ k → acc.size ≤ 1 + 1100 * i → ∃ t, coadjutorref29_Bytes.l0 k acc H i c.kind c.id c.n c.good c.pr c.dr c.data = some t ∧ t.data.toList = acc.data.toList ++ encFs c ((H.data.toList.drop i).map fieldOf)
  | 0, i, k, acc, h, hk, ha => by
    obtain ⟨k, rfl⟩ : ∃ m, k = m + 1 := ⟨k - 1, by omega⟩
    refine ⟨acc, ?_, by rw [List.drop_eq_nil_of_le (by rw [← size_data]; omega)]; simp [encFs]⟩
    simp only [coadjutorref29_Bytes.l0]
    rw [if_neg (by omega)]
  | d + 1, i, k, acc, h, hk, ha => by
    obtain ⟨k, rfl⟩ : ∃ m, k = m + 1 := ⟨k - 1, by omega⟩
    have hx : i < H.size := by omega
    have hx' : i < H.data.toList.length := by rw [← size_data]; exact hx
    have hbt : bt H (i : Int) = ((H[i]'hx).toNat : Int) := by unfold bt; rw [dif_pos (by simpa using hx)]; rfl
    have hdrop : H.data.toList.drop i = H[i] :: H.data.toList.drop (i + 1) := List.drop_eq_getElem_cons hx'
    have hnext : ∀ t : ByteArray, t.data.toList = encF c (fieldOf H[i]) → acc.size + t.size ≤ 9223372036854775807 ∧ ∃ u, coadjutorref29_Bytes.l0 k (acc ++ t) H (wrap64 ((i : Int) + 1)) c.kind c.id c.n c.good c.pr c.dr c.data = some u ∧ u.data.toList = acc.data.toList ++ encFs c ((H.data.toList.drop i).map fieldOf) := by
      intro t ht
      have hts : (t.size : Int) ≤ 1100 := by rw [size_data, ht]; exact encF_len hf _
      refine ⟨by omega, ?_⟩
      rw [show wrap64 ((i : Int) + 1) = ((i + 1 : Nat) : Int) by unfold wrap64; omega]
      obtain ⟨u, h3, h4⟩ := bytes_l0 c hf H hH hlet d (i + 1) k (acc ++ t) (by omega) (by omega) (by rw [ByteArray.size_append]; omega)
      refine ⟨u, h3, ?_⟩
      rw [h4, app_data, ht, hdrop, List.map_cons, List.append_assoc]
      rfl
    simp only [coadjutorref29_Bytes.l0]
    rw [if_pos (by omega), if_pos (by omega), hbt]
    rcases hlet i hx with hl | hl | hl | hl | hl | hl
    · rw [fieldOf_toNat _ _ hl (by decide)] at hnext
      obtain ⟨t, h1, h2⟩ := refnumF c.id hf.id
      obtain ⟨h3, u, h4, h5⟩ := hnext t (by rw [h2]; rfl)
      rw [hl, if_pos (by decide), h1]
      simp only [Option.bind_some]
      rw [if_pos h3]
      exact ⟨u, h4, h5⟩
    · rw [fieldOf_toNat _ _ hl (by decide)] at hnext
      obtain ⟨t, h1, h2⟩ := refnumF c.n hf.n
      obtain ⟨h3, u, h4, h5⟩ := hnext t (by rw [h2]; rfl)
      rw [hl, if_neg (by decide), if_pos (by decide), h1]
      simp only [Option.bind_some]
      rw [if_pos h3]
      exact ⟨u, h4, h5⟩
    · rw [fieldOf_toNat _ _ hl (by decide)] at hnext
      rw [hl, if_neg (by decide), if_neg (by decide), if_pos (by decide)]
      cases hg : c.good with
      | true =>
        obtain ⟨h3, u, h4, h5⟩ := hnext ⟨#[1]⟩ (by show _ = [if c.good then (1 : UInt8) else 0]; rw [hg]; rfl)
        rw [hg] at h4
        rw [if_pos rfl, if_pos (show acc.size + 1 ≤ 9223372036854775807 from h3)]
        exact ⟨u, h4, h5⟩
      | false =>
        obtain ⟨h3, u, h4, h5⟩ := hnext ⟨#[0]⟩ (by show _ = [if c.good then (1 : UInt8) else 0]; rw [hg]; rfl)
        rw [hg] at h4
        rw [if_neg (by simp), if_pos (show acc.size + 1 ≤ 9223372036854775807 from h3)]
        exact ⟨u, h4, h5⟩
    · rw [fieldOf_toNat _ _ hl (by decide)] at hnext
      obtain ⟨t, h1, h2⟩ := refrowF c.pr hf.pr hf.pl k (by omega)
      obtain ⟨h3, u, h4, h5⟩ := hnext t (by rw [h2]; rfl)
      rw [hl, if_neg (by decide), if_neg (by decide), if_neg (by decide), if_pos (by decide), h1]
      simp only [Option.bind_some]
      rw [if_pos h3]
      exact ⟨u, h4, h5⟩
    · rw [fieldOf_toNat _ _ hl (by decide)] at hnext
      obtain ⟨t, h1, h2⟩ := refrowF c.dr hf.dr hf.dl k (by omega)
      obtain ⟨h3, u, h4, h5⟩ := hnext t (by rw [h2]; rfl)
      rw [hl, if_neg (by decide), if_neg (by decide), if_neg (by decide), if_neg (by decide), if_pos (by decide), h1]
      simp only [Option.bind_some]
      rw [if_pos h3]
      exact ⟨u, h4, h5⟩
    · rw [fieldOf_toNat _ _ hl (by decide)] at hnext
      obtain ⟨t, h1, h2⟩ := reftextF c.data hf.data
      obtain ⟨h3, u, h4, h5⟩ := hnext t (by rw [h2]; rfl)
      rw [hl, if_neg (by decide), if_neg (by decide), if_neg (by decide), if_neg (by decide), if_neg (by decide), h1]
      simp only [Option.bind_some]
      rw [if_pos h3]
      exact ⟨u, h4, h5⟩

theorem refbytesF (c : Cmd) (hf : Fit c) : coadjutorref29_Bytes.f 50 c.kind c.id c.n c.good c.pr c.dr c.data = some ⟨(enc c).toArray⟩ := by
  unfold coadjutorref29_Bytes.f
  have hh : coadjutorref29_Has.f 50 c.kind = some (hasB c.kind) := at_rounds (coadjutorref29_Has.mono c.kind) (by decide) (hasF c.kind)
  rw [hh]
  simp only [Option.bind_some]
  obtain ⟨t, h1, h2⟩ := bytes_l0 c hf (hasB c.kind) (has_size c.kind) (has_letters c.kind) (hasB c.kind).size 0 50 (strOfNums [c.kind % 256]) (by omega) (by have := has_size c.kind; omega) (by simp [strOfNums, ByteArray.size])
  rw [Int.natCast_zero] at h1
  rw [h1]
  congr 1
  apply oext
  rw [h2, List.drop_zero, has_fields]
  simp [strOfNums, enc]

theorem refbytes_calls (c : Cmd) (p d : Value) (A B : Nat) (w : World) (hp : Sl w A B p c.pr) (hd : Sl w A B d c.dr) (hf : Fit c) :
    Calls Try.prog 16 #[.agg (c.vals p d)] w fun e w' => e = .returned (.string ⟨(enc c).toArray⟩) ∧ Below w.heap.size w w' := by
  obtain ⟨a1, c1, rfl, h1, r1⟩ := hp.reads
  obtain ⟨a2, c2, rfl, h2, r2⟩ := hd.reads
  exact coadjutorref29_Bytes.calls 50 c.kind c.id c.n c.good a1 c1 c.pr a2 c2 c.dr c.data _ w r1 h1 r2 h2 (refbytesF c hf)

theorem ints_l0 (xs ys : List Int) (hl : xs.length = ys.length) (hb : (xs.length : Int) ≤ 1000000) : ∀ (d i k : Nat), i + d = xs.length → d < k → coadjutorlaw29_ints.l0 k xs ys i = some (decide (xs.drop i = ys.drop i))
  | 0, i, k, h, hk => by
    obtain ⟨k, rfl⟩ : ∃ m, k = m + 1 := ⟨k - 1, by omega⟩
    simp only [coadjutorlaw29_ints.l0]
    rw [if_neg (by omega), List.drop_eq_nil_of_le (by omega), List.drop_eq_nil_of_le (by omega)]
    simp
  | d + 1, i, k, h, hk => by
    obtain ⟨k, rfl⟩ : ∃ m, k = m + 1 := ⟨k - 1, by omega⟩
    have hx : i < xs.length := by omega
    have hy : i < ys.length := by omega
    have hrx : rd xs (i : Int) = xs[i] := by simp [rd, List.getD_eq_getElem?_getD, hx]
    have hry : rd ys (i : Int) = ys[i] := by simp [rd, List.getD_eq_getElem?_getD, hy]
    simp only [coadjutorlaw29_ints.l0]
    rw [if_pos (by omega), if_pos (by omega), if_pos (by omega), hrx, hry, List.drop_eq_getElem_cons hx, List.drop_eq_getElem_cons hy]
    by_cases he : xs[i] = ys[i]
    · rw [if_pos he, show wrap64 ((i : Int) + 1) = ((i + 1 : Nat) : Int) by unfold wrap64; omega, ints_l0 xs ys hl hb d (i + 1) k (by omega) (by omega)]
      simp only [List.cons.injEq, he, true_and]
    · rw [if_neg he]
      simp only [List.cons.injEq, he, false_and, decide_false]
theorem intsF (xs ys : List Int) (hb : (xs.length : Int) ≤ 1000000) (k : Nat) (hk : xs.length < k) : coadjutorlaw29_ints.f k xs ys = some (decide (xs = ys)) := by
  unfold coadjutorlaw29_ints.f
  by_cases h : xs.length = ys.length
  · rw [if_pos (by omega)]
    have := ints_l0 xs ys h hb xs.length 0 k (by omega) (by omega)
    simpa using this
  · rw [if_neg (by omega)]
    have : ¬ xs = ys := fun e => h (by rw [e])
    simp [this]
theorem alikeF (c c' : Cmd) (k : Nat) (h1 : (c.pr.length : Int) ≤ 1000000) (h2 : (c.dr.length : Int) ≤ 1000000) (hk : c.pr.length < k ∧ c.dr.length < k) :
    coadjutorlaw29_alike.f k c.kind c.id c.n c.good c.pr c.dr c.data c'.kind c'.id c'.n c'.good c'.pr c'.dr c'.data = some (decide (c = c')) := by
  obtain ⟨kd, id, n, good, pr, dr, data⟩ := c
  obtain ⟨kd', id', n', good', pr', dr', data'⟩ := c'
  simp only at h1 h2 hk ⊢
  unfold coadjutorlaw29_alike.f
  rw [intsF pr pr' h1 k hk.1, intsF dr dr' h2 k hk.2]
  simp only [Option.bind_some, Cmd.mk.injEq]
  have hdd : (data.toList == data'.toList) = decide (data = data') := by
    by_cases h : data = data'
    · subst h; simp
    · rw [o_ne h]; simp [h]
  rw [hdd]
  by_cases e1 : kd = kd'
  · by_cases e2 : id = id'
    · by_cases e3 : n = n'
      · by_cases e4 : good = good'
        · by_cases e5 : pr = pr'
          · by_cases e6 : dr = dr'
            · simp [e1, e2, e3, e4, e5, e6]
            · simp [e1, e2, e3, e4, e5, e6]
          · simp [e1, e2, e3, e4, e5]
        · simp [e1, e2, e3, e4]
      · simp [e1, e2, e3]
    · simp [e1, e2]
  · simp [e1]
theorem alike_calls (c c' : Cmd) (p d p' d' : Value) (A B A' B' A2 B2 A3 B3 : Nat) (w : World) (hp : Sl w A B p c.pr) (hd : Sl w A' B' d c.dr) (hp' : Sl w A2 B2 p' c'.pr) (hd' : Sl w A3 B3 d' c'.dr) :
    Calls Try.prog 14 #[.agg (c.vals p d), .agg (c'.vals p' d')] w fun e w' => e = .returned (.bool (decide (c = c'))) ∧ Below w.heap.size w w' := by
  have l1 := hp.1
  have l2 := hd.1
  obtain ⟨a1, c1, rfl, h1, r1⟩ := hp.reads
  obtain ⟨a2, c2, rfl, h2, r2⟩ := hd.reads
  obtain ⟨a3, c3, rfl, h3, r3⟩ := hp'.reads
  obtain ⟨a4, c4, rfl, h4, r4⟩ := hd'.reads
  exact coadjutorlaw29_alike.calls (c.pr.length + c.dr.length + 1) c.kind c.id c.n c.good a1 c1 c.pr a2 c2 c.dr c.data c'.kind c'.id c'.n c'.good a3 c3 c'.pr a4 c4 c'.dr c'.data _ w r1 h1 r2 h2 r3 h3 r4 h4 (alikeF c c' _ l1 l2 (by omega))
/-- whether a command is more than is asked -/
def greatB (c : Cmd) : Bool := decide ((c.pr.length : Int) > 40) || decide ((c.dr.length : Int) > 40) || decide ((c.data.size : Int) > 1100)
theorem great_calls (c : Cmd) (p d : Value) (A B : Nat) (w : World) (hp : Sl w A B p c.pr) (hd : Sl w A B d c.dr) :
    Calls Try.prog 6 #[.agg (c.vals p d)] w fun e w' => e = .returned (.bool (greatB c)) ∧ Below w.heap.size w w' := by
  obtain ⟨a1, c1, rfl, h1, r1⟩ := hp.reads
  obtain ⟨a2, c2, rfl, h2, r2⟩ := hd.reads
  refine coadjutorlaw29_great.calls c.kind c.id c.n c.good a1 c1 c.pr a2 c2 c.dr c.data _ w r1 h1 r2 h2 ?_
  unfold coadjutorlaw29_great.f greatB
  by_cases g1 : (c.pr.length : Int) > 40
  · rw [if_pos g1]; simp [g1]
  · by_cases g2 : (c.dr.length : Int) > 40
    · rw [if_neg g1, if_pos g2]; simp [g1, g2]
    · rw [if_neg g1, if_neg g2]; simp [g1, g2]
end Go.Proofs.Ytbedamkeeongfaa
