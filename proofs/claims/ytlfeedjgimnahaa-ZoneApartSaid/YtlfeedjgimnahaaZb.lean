/- Zone.Fill over a disk of the call's own whose power is there and that has no fuse: each sector that is another is written. -/
import Derived.Test.YtlfeedjgimnahaaZa
namespace Go.Proofs.Ytlfeedjgimnahaa
open Go.RowKit Go.Proofs.Ytlfeedjgimnahaa.Mem
set_option linter.unusedVariables false

/-- what a disk without a fuse shows: its sectors, and how many deeds were done since it was new, all of them writes -/
structure VS (D : DS) (V : List ByteArray) (m : Nat) : Prop where
  on : D.away = false
  fuse : D.fuse = -1
  len : D.safe.length = V.length
  rd : ∀ i, i < V.length → D.read (i : Nat) = V.getD i .empty
  dn : D.done = m
  ll : D.loose.length = m

theorem VS.write {D : DS} {V : List ByteArray} {m : Nat} (h : VS D V m) (i : Nat) (x : ByteArray) (hi : i < V.length) : VS (D.written (i : Nat) x) (V.set i x) (m + 1) where
  on := h.on
  fuse := by show max (D.fuse - 1) (-1) = -1; rw [h.fuse]; decide
  len := by rw [List.length_set]; exact h.len
  rd := fun j hj => by
    rw [List.length_set] at hj
    have hr := h.rd j hj
    unfold DS.read at hr ⊢
    simp only [DS.written, lookBack, List.reverse_append, List.reverse_cons, List.reverse_nil, List.nil_append, List.singleton_append, List.find?_cons, DS.spent]
    by_cases hij : i = j
    · subst hij
      simp [List.getD, hj]
    · have h1 : ((i : Int) == (j : Int)) = false := by simp; omega
      rw [h1]
      simp only [List.getD, List.getElem?_set, if_neg hij]
      exact hr
  dn := by show D.done + 1 = _; rw [h.dn]; omega
  ll := by simp [DS.written, h.ll]

/-- such a disk in memory, with zones over it -/
def OwnV (B : Nat) (w0 : World) (b : Nat) (Z : List (Nat × Int × Int)) (V : List ByteArray) (m : Nat) (w : World) : Prop := ∃ D, OwnZ B w0 b Z D w ∧ VS D V m
theorem OwnV.below {B w0 b Z V m w w'} (h : OwnV B w0 b Z V m w) (hb : Below w.heap.size w w') : OwnV B w0 b Z V m w' := by
  obtain ⟨D, h1, h2⟩ := h
  exact ⟨D, h1.below hb, h2⟩
theorem OwnV.bel {B w0 b Z V m w} (h : OwnV B w0 b Z V m w) : Below B w0 w := by obtain ⟨D, h1, _⟩ := h; exact h1.bel
theorem OwnV.zn {B w0 b Z V m w} (h : OwnV B w0 b Z V m w) : ∀ z ∈ Z, w.heap[z.1]? = some (znRow b z.2.1 z.2.2) := by obtain ⟨D, h1, _⟩ := h; exact fun z hz => (h1.zn z hz).1

variable {B b : Nat} {w0 w : World} {Z : List (Nat × Int × Int)} {V : List ByteArray} {m : Nat}
theorem vread0 (h : OwnV B w0 b Z V m w) (zb f s : Nat) (hz : (zb, (f : Int), (s : Int)) ∈ Z) (i : Nat) (hi : i < s) (hfs : f + s ≤ V.length) (hn : V.length ≤ 1000000) :
    Calls Try.prog 34 #[.pointer (some ⟨zb, 0, none⟩), .int .i64 i] w fun e w' => e = .returned (.tuple #[.string (V.getD (f + i) .empty), .int .i64 0]) ∧ Below w.heap.size w w' := by
  obtain ⟨D, h1, h2⟩ := h
  refine (zread_ok h1 zb f s hz h2.on i hi (by rw [h2.len]; exact hfs) (by rw [h2.len]; exact hn)).mono fun e w' ⟨e1, e2⟩ => ⟨?_, e2⟩
  rw [e1, h2.rd (f + i) (by omega)]
theorem vread (h : OwnV B w0 b Z V m w) (zb f s : Nat) (hz : (zb, (f : Int), (s : Int)) ∈ Z) (i : Nat) (hi : i < s) (hfs : f + s ≤ V.length) (hn : V.length ≤ 1000000) :
    Calls Try.prog 34 #[.pointer (some ⟨zb, 0, none⟩), .int .i64 i] w fun e w' => e = .returned (.tuple #[.string (V.getD (f + i) .empty), .int .i64 0]) ∧ OwnV B w0 b Z V m w' :=
  (vread0 h zb f s hz i hi hfs hn).mono fun e w' ⟨e1, e2⟩ => ⟨e1, h.below e2⟩
theorem vwrite (h : OwnV B w0 b Z V m w) (zb f s : Nat) (hz : (zb, (f : Int), (s : Int)) ∈ Z) (i : Nat) (hi : i < s) (hfs : f + s ≤ V.length) (hn : V.length ≤ 1000000) (hm : m < 1000000) (x : ByteArray) (hx : x.size = 32) :
    Calls Try.prog 21 #[.pointer (some ⟨zb, 0, none⟩), .int .i64 i, .string x] w fun e w' => e = .returned (.int .i64 0) ∧ OwnV B w0 b Z (V.set (f + i) x) (m + 1) w' := by
  obtain ⟨D, h1, h2⟩ := h
  exact (zwrite_ok h1 zb f s hz h2.on h2.fuse (by rw [h2.dn]; omega) (by rw [h2.ll]; exact hm) i hi (by rw [h2.len]; exact hfs) (by rw [h2.len]; exact hn) x hx).mono fun e w' ⟨e1, e2⟩ => ⟨e1, _, e2, h2.write (f + i) x (by omega)⟩

/-- k sectors of a part are filled: the sectors, how many were written -/
def fillN (V : List ByteArray) (f : Nat) (x : ByteArray) : Nat → List ByteArray × Nat
  | 0 => (V, 0)
  | k + 1 => if (fillN V f x k).1.getD (f + k) .empty = x then fillN V f x k else ((fillN V f x k).1.set (f + k) x, (fillN V f x k).2 + 1)
theorem fillN_len (V : List ByteArray) (f : Nat) (x : ByteArray) : ∀ k, (fillN V f x k).1.length = V.length
  | 0 => rfl
  | k + 1 => by simp only [fillN]; split <;> simp [fillN_len V f x k]
theorem fillN_le (V : List ByteArray) (f : Nat) (x : ByteArray) : ∀ k, (fillN V f x k).2 ≤ k
  | 0 => Nat.le_refl _
  | k + 1 => by have := fillN_le V f x k; simp only [fillN]; split <;> simp <;> omega
theorem fillN_get (V : List ByteArray) (f : Nat) (x : ByteArray) : ∀ k i, i < V.length → f + k ≤ V.length → (fillN V f x k).1.getD i .empty = if f ≤ i ∧ i < f + k then x else V.getD i .empty
  | 0, i, hi, hk => by rw [if_neg (by omega)]; rfl
  | k + 1, i, hi, hk => by
    have ih := fillN_get V f x k
    have hl := fillN_len V f x k
    simp only [fillN]
    split
    · rename_i h
      rw [ih i hi (by omega)]
      by_cases e : i = f + k
      · subst e
        rw [ih _ hi (by omega), if_neg (by omega)] at h
        rw [if_neg (by omega), if_pos (by omega), h]
      · by_cases h2 : f ≤ i ∧ i < f + k
        · rw [if_pos h2, if_pos (by omega)]
        · rw [if_neg h2, if_neg (by omega)]
    · by_cases e : i = f + k
      · subst e
        rw [if_pos (by omega)]
        simp [List.getD, hl, hi]
      · have : ((fillN V f x k).1.set (f + k) x).getD i .empty = (fillN V f x k).1.getD i .empty := by
          simp only [List.getD, List.getElem?_set, if_neg (show ¬ f + k = i by omega)]
        rw [this, ih i hi (by omega)]
        by_cases h2 : f ≤ i ∧ i < f + k
        · rw [if_pos h2, if_pos (by omega)]
        · rw [if_neg h2, if_neg (by omega)]

theorem str_ne {a b : ByteArray} (h : ¬ a = b) : (a.toList == b.toList) = false := by
  rw [beq_eq_false_iff_ne]
  intro e
  exact h (ba_ext (by rw [← Lib.toList_data, ← Lib.toList_data]; exact e))
theorem repSec (c : Int) (h0 : 0 ≤ c) (h1 : c ≤ 255) : (⟨(Lib.repeatL (strOfNums [c]).data.toList 32).toArray⟩ : ByteArray) = sec c := by
  apply ba_ext
  simp only [strOfNums_data, List.map_cons, List.map_nil, repeatL_one, sec, List.map_replicate]

set_option maxHeartbeats 2000000 in
theorem vfill (h : OwnV B w0 b Z V m w) (zb f s : Nat) (hz : (zb, (f : Int), (s : Int)) ∈ Z) (hfs : f + s ≤ V.length) (hn : V.length ≤ 1000) (hm : m ≤ 1000) (c : Int) (h0 : 0 ≤ c) (h1 : c ≤ 255) :
    Calls Try.prog 18 #[.pointer (some ⟨zb, 0, none⟩), .int .u8 c] w fun e w' => e = .returned (.int .i64 0) ∧ OwnV B w0 b Z (fillN V f (sec c) s).1 (m + (fillN V f (sec c) s).2) w' := by
  have hzb := h.zn _ hz
  have c2 : w.cell? ⟨zb, 2, none⟩ = some (.int .i64 s) := by simp [World.cell?, hzb, znRow]
  have hcv := run_convert_bytes_arg (P := Try.prog) (w.alloc (.cells #[.int .u8 c] 5)) 22 5 (by kernel_rfl) (by kernel_rfl) w.heap.size 0 1 1 [c] rfl (fun i hi => by
    obtain rfl : i = 0 := by omega
    rw [World.cell?_alloc_at _ _ _ _ rfl]; rfl) 9 (by kernel_rfl)
  have hrep : ∀ w1, Calls Try.prog 29 #[.string (strOfNums [c]), .int .i64 32] w1 fun e w' => e = .returned (.string (sec c)) ∧ Below w1.heap.size w1 w' := by
    intro w1
    have h := Try.strings_Repeat (strOfNums [c]) 32 w1 (by decide) (by rw [strOfNums_size]; simp)
    rw [repSec c h0 h1] at h
    exact h
  have H := Lib.hid h
  have HR := Lib.hid hrep
  have HV := Lib.hid hfs
  have HN := Lib.hid hn
  have HM := Lib.hid hm
  have hs : (s : Int) ≤ 1000 := by omega
  have hzlt := lt_of_block hzb
  clear h hrep hzb hfs hn hm
  go_enter Try.func18, Try.ntmps18
  go_wp2_with fail
  refine (HR.out _).mono ?_
  rintro e w1 ⟨rfl, hb⟩
  have h1' := (H.out.below (((Below.refl w.heap.size w).alloc (Nat.le_refl _) (.cells #[.int .u8 c] 5)))).below hb
  have HV1 := Lib.hid h1'
  have c2' : w1.cell? ⟨zb, 2, none⟩ = some (.int .i64 s) := by simp [World.cell?, h1'.zn _ hz, znRow]
  clear hb h1' hcv
  go_wp2_with fail
  go_loopw [19] (fun i wr => ∃ k : Nat, k ≤ s ∧ i = .int .i64 k ∧ OwnV B w0 b Z (fillN V f (sec c) k).1 (m + (fillN V f (sec c) k).2) wr) (fun i _ => s - (intOf i).toNat)
  case atStart => exact ⟨0, Nat.zero_le _, rfl, HV1.out⟩
  case round =>
    obtain ⟨k, hk, rfl, hv⟩ := hrel
    have hlen := fillN_len V f (sec c) k
    have hle := fillN_le V f (sec c) k
    have hVV := HV.out
    have hNN := HN.out
    have hMM := HM.out
    by_cases hlt : k < s
    · have hrd := vread hv zb f s hz k hlt (by omega) (by omega)
      obtain ⟨y, hy⟩ : ∃ y, (fillN V f (sec c) k).1.getD (f + k) .empty = y := ⟨_, rfl⟩
      rw [hy] at hrd
      have hwr := fun w' (hv : OwnV B w0 b Z (fillN V f (sec c) k).1 (m + (fillN V f (sec c) k).2) w') => vwrite hv zb f s hz k hlt (by omega) (by omega) (by omega) (sec c) (sec_size c)
      have HW := Lib.hid hwr
      have HY := Lib.hid hy
      clear hwr hy hv hlen hle hVV hNN hMM
      by_cases he : y = sec c
      · have HE := Lib.hid he
        subst he
        go_wp2_with (go_at_call 34; refine hrd.mono ?_; rintro e w2 ⟨rfl, hv2⟩; have HV2 := Lib.hid hv2; clear hv2)
        go_roundw
        case rel => exact ⟨k + 1, by omega, by go_num, by rw [fillN, if_pos HY.out]; exact HV2.out⟩
        case measure => simp [intOf]; omega
      · have he' := str_ne he
        have HE := Lib.hid he
        clear he
        go_wp2_with (first | (go_at_call 34; refine hrd.mono ?_; rintro e w2 ⟨rfl, hv2⟩; have HV2 := Lib.hid hv2; clear hv2) | (go_at_call 21; refine (HW.out _ HV2.out).mono ?_; rintro e w3 ⟨rfl, hv3⟩; have HV3 := Lib.hid hv3; clear hv3))
        go_roundw
        case rel => exact ⟨k + 1, by omega, by go_num, by rw [fillN, if_neg (by rw [HY.out]; exact HE.out)]; exact HV3.out⟩
        case measure => simp [intOf]; omega
    · obtain rfl : k = s := by omega
      have HVV := Lib.hid hv
      clear hv hlen hle hVV hNN hMM
      go_wp2
      go_ret
      exact ⟨rfl, HVV.out⟩
end Go.Proofs.Ytlfeedjgimnahaa
