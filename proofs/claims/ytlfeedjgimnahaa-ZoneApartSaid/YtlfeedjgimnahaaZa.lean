/- Contracts of zone.isPart, zone.New, Zone.Len, Zone.isIn, Zone.Read, Zone.Write over a disk of the call's own. -/
import Derived.Test.YtlfeedjgimnahaaDo
import Derived.StillTailTactics
import Derived.Deep.RegionWith
import Derived.IntWalk
namespace Go.Proofs.Ytlfeedjgimnahaa
open Go.RowKit Go.Proofs.Ytlfeedjgimnahaa.Mem
set_option linter.unusedVariables false

/-- a zone's own block: the disk, from, size -/
def znRow (b : Nat) (f s : Int) : Obj := .cells #[.pointer (some ⟨b, 0, none⟩), .int .i64 f, .int .i64 s] 40

/-- a disk of the call's own, and zones over it -/
structure OwnZ (B : Nat) (w0 : World) (b : Nat) (Z : List (Nat × Int × Int)) (D : DS) (w : World) : Prop where
  dk : ∃ S, DkAt w b D S ∧ (∀ x ∈ S, B ≤ x) ∧ ∀ z ∈ Z, z.1 ∉ S
  zn : ∀ z ∈ Z, w.heap[z.1]? = some (znRow b z.2.1 z.2.2) ∧ B ≤ z.1
  bel : Below B w0 w
  hB : B ≤ w0.heap.size

theorem OwnD.toZ {B w0 b D w} (h : OwnD B w0 b D w) : OwnZ B w0 b [] D w := by
  obtain ⟨S, h1, h2⟩ := h.dk
  exact ⟨⟨S, h1, h2, fun z hz => absurd hz (by simp)⟩, fun z hz => absurd hz (by simp), h.bel, h.hB⟩
theorem OwnZ.toD {B w0 b Z D w} (h : OwnZ B w0 b Z D w) : OwnD B w0 b D w := by
  obtain ⟨S, h1, h2, _⟩ := h.dk
  exact ⟨⟨S, h1, h2⟩, h.bel, h.hB⟩
theorem OwnZ.out {B w0 b Z D w w'} (h : OwnZ B w0 b Z D w) {T : List Nat} (ho : Out T w w') (hT : ∀ S, DkAt w b D S → (∀ x ∈ S, B ≤ x) → ∀ x ∈ S, x ∉ T) (hz : ∀ z ∈ Z, z.1 ∉ T) (hB : ∀ x ∈ T, B ≤ x) : OwnZ B w0 b Z D w' := by
  obtain ⟨⟨S, h1, h2, h3⟩, h4, h5, h6⟩ := h
  exact ⟨⟨S, h1.out ho (hT S h1 h2), h2, h3⟩, fun z hz' => ⟨by rw [ho.block z.1 (lt_of_block (h4 z hz').1) (hz z hz')]; exact (h4 z hz').1, (h4 z hz').2⟩, h5.trans (ho.below hB (Nat.le_trans h6 h5.size)), h6⟩
theorem OwnZ.below {B w0 b Z D w w'} (h : OwnZ B w0 b Z D w) (hb : Below w.heap.size w w') : OwnZ B w0 b Z D w' :=
  h.out (Out.of_below hb []) (by simp) (by simp) (by simp)
theorem OwnZ.step {B w0 b Z D D' w w'} (h : OwnZ B w0 b Z D w) (hs : ∀ S, DkAt w b D S → DkStep w b S D' w') : OwnZ B w0 b Z D' w' := by
  obtain ⟨⟨S, h1, h2, h3⟩, h4, h5, h6⟩ := h
  obtain ⟨S', k1, k2, k3⟩ := hs S h1
  have hz := Nat.le_trans h6 h5.size
  refine ⟨⟨S', k1, fun x hx => ?_, fun z hz hm => ?_⟩, fun z hz => ⟨by rw [k3.block z.1 (lt_of_block (h4 z hz).1) (h3 z hz)]; exact (h4 z hz).1, (h4 z hz).2⟩, h5.trans (k3.below h2 hz), h6⟩
  · rcases k2 x hx with h | h
    · exact h2 x h
    · omega
  · rcases k2 _ hm with h | h
    · exact h3 z hz h
    · have := lt_of_block (h4 z hz).1; omega
theorem OwnZ.small {B w0 b Z D w} (h : OwnZ B w0 b Z D w) : ∃ S, DkAt w b D S ∧ (∀ x ∈ S, B ≤ x) ∧ (∀ z ∈ Z, z.1 ∉ S) ∧ ∀ x ∈ S, x < w.heap.size := by
  obtain ⟨S, h1, h2, h3⟩ := h.dk
  obtain ⟨S', k1, k2, k3⟩ := h1.small
  exact ⟨S', k1, fun x hx => h2 x (k2 x hx), fun z hz hm => h3 z hz (k2 _ hm), k3⟩
/-- one zone more, in the newest block -/
theorem OwnZ.made {B w0 b Z D w} (h : OwnZ B w0 b Z D w) (f s : Int) : OwnZ B w0 b ((w.heap.size, f, s) :: Z) D (w.alloc (znRow b f s)) := by
  have h' := h.below ((Below.refl w.heap.size w).alloc (Nat.le_refl _) (znRow b f s))
  obtain ⟨S, h1, h2, h3, h4⟩ := h.small
  refine ⟨⟨S, h1.out (Out.of_below ((Below.refl w.heap.size w).alloc (Nat.le_refl _) (znRow b f s)) []) (by simp), h2, ?_⟩, ?_, h'.bel, h.hB⟩
  · intro z hz hm
    simp only [List.mem_cons] at hz
    rcases hz with rfl | hz
    · have := h4 _ hm; simp at this
    · exact h3 z hz hm
  · intro z hz
    simp only [List.mem_cons] at hz
    rcases hz with rfl | hz
    · exact ⟨heap_alloc_new w _, Nat.le_trans h.hB h.bel.size⟩
    · exact h'.zn z hz

theorem isPart_any (f s a : Int) (w : World) (hf : -9223372036854775808 ≤ f) (ha : a ≤ 9223372036854775807) (hf0 : 0 ≤ f) (hfa : 0 ≤ a) :
    Calls Try.prog 35 #[.int .i64 f, .int .i64 s, .int .i64 a] w fun e w' => e = .returned (.bool (decide (1 ≤ s ∧ f < a ∧ s ≤ a - f))) ∧ w = w' := by
  by_cases h1 : 1 ≤ s
  · by_cases h2 : f < a
    · by_cases h3 : s ≤ a - f
      all_goals
        go_enter Try.func35, Try.ntmps35
        go_wp2
        go_ret
        exact ⟨by first | (simp [h1, h2, h3]; done) | (simp <;> omega), rfl⟩
    · go_enter Try.func35, Try.ntmps35
      go_wp2
      go_ret
      exact ⟨by simp <;> omega, rfl⟩
  · go_enter Try.func35, Try.ntmps35
    go_wp2
    go_ret
    exact ⟨by simp <;> omega, rfl⟩

theorem isIn_any (b : Nat) (f s i : Int) (zb : Nat) (w : World) (hz : w.heap[zb]? = some (znRow b f s)) :
    Calls Try.prog 38 #[.pointer (some ⟨zb, 0, none⟩), .int .i64 i] w fun e w' => e = .returned (.bool (decide (0 ≤ i ∧ i < s))) ∧ w = w' := by
  have c2 : w.cell? ⟨zb, 2, none⟩ = some (.int .i64 s) := by simp [World.cell?, hz, znRow]
  clear hz
  by_cases h1 : 0 ≤ i
  · by_cases h2 : i < s
    all_goals
      go_enter Try.func38, Try.ntmps38
      go_wp2
      go_ret
      exact ⟨by first | (simp [h1, h2]; done) | (simp <;> omega), rfl⟩
  · go_enter Try.func38, Try.ntmps38
    go_wp2
    go_ret
    exact ⟨by simp <;> omega, rfl⟩

theorem zlen_any (b : Nat) (f s : Int) (zb : Nat) (w : World) (hz : w.heap[zb]? = some (znRow b f s)) :
    Calls Try.prog 20 #[.pointer (some ⟨zb, 0, none⟩)] w fun e w' => e = .returned (.int .i64 s) ∧ w = w' := by
  have c2 : w.cell? ⟨zb, 2, none⟩ = some (.int .i64 s) := by simp [World.cell?, hz, znRow]
  clear hz
  go_enter Try.func20, Try.ntmps20
  go_wp2
  go_ret
  exact ⟨rfl, rfl⟩

/-- a part that can be -/
theorem znew_ok {B b : Nat} {w0 w : World} {Z : List (Nat × Int × Int)} {D : DS} (h : OwnZ B w0 b Z D w) (f s : Int) (hn : D.safe.length ≤ 1000000) (hf : 0 ≤ f) (hs : 1 ≤ s) (hfs : f + s ≤ D.safe.length) :
    Calls Try.prog 16 #[.pointer (some ⟨b, 0, none⟩), .int .i64 f, .int .i64 s] w fun e w' => e = .returned (.tuple #[.pointer (some ⟨w.heap.size, 0, none⟩), .int .i64 0]) ∧ OwnZ B w0 b ((w.heap.size, f, s) :: Z) D w' := by
  have hl := len_own h.toD
  have hp := isPart_any f s D.safe.length w (by omega) (by omega) hf (by omega)
  rw [decide_eq_true (by omega)] at hp
  have H := Lib.hid h
  clear h hn hf hs hfs
  go_enter Try.func16, Try.ntmps16
  go_wp2_with (first | (go_at_call 17; refine hl.mono ?_; rintro e w1 ⟨rfl, rfl⟩) | (go_at_call 35; refine hp.mono ?_; rintro e w1 ⟨rfl, rfl⟩))
  go_ret2
  exact ⟨rfl, H.out.made f s⟩

set_option maxHeartbeats 1000000 in
theorem zread_ok {B b : Nat} {w0 w : World} {Z : List (Nat × Int × Int)} {D : DS} (h : OwnZ B w0 b Z D w) (zb : Nat) (f s : Nat) (hz : (zb, (f : Int), (s : Int)) ∈ Z) (ha : D.away = false) (i : Nat) (hi : i < s) (hfs : f + s ≤ D.safe.length) (hn : D.safe.length ≤ 1000000) :
    Calls Try.prog 34 #[.pointer (some ⟨zb, 0, none⟩), .int .i64 i] w fun e w' => e = .returned (.tuple #[.string (D.read (f + i : Nat)), .int .i64 0]) ∧ Below w.heap.size w w' := by
  have hzb := (h.zn _ hz).1
  have hin := isIn_any b f s i zb w hzb
  rw [decide_eq_true (by omega)] at hin
  have hrd : ∀ w1, OwnZ B w0 b Z D w1 → Calls Try.prog 23 #[.pointer (some ⟨b, 0, none⟩), .int .i64 ((f : Int) + i)] w1 fun e w' => e = .returned (.tuple #[.string (D.read (f + i : Nat)), .int .i64 0]) ∧ Below w1.heap.size w1 w' := by
    intro w1 h1
    obtain ⟨S, k1, _⟩ := h1.dk
    exact read_dk k1 ha (f + i) (by omega)
  have c0 : w.cell? ⟨zb, 0, none⟩ = some (.pointer (some ⟨b, 0, none⟩)) := by simp [World.cell?, hzb, znRow]
  have c1 : w.cell? ⟨zb, 1, none⟩ = some (.int .i64 f) := by simp [World.cell?, hzb, znRow]
  have c2 : w.cell? ⟨zb, 2, none⟩ = some (.int .i64 s) := by simp [World.cell?, hzb, znRow]
  have hw1 : IntKind.i64.wrap ((f : Int) + i) = (f : Int) + i := IntWalk.i64_in _ (by omega)
  have H := Lib.hid h
  have HR := Lib.hid hrd
  clear h hrd hz hzb hi hfs hn
  go_enter Try.func34, Try.ntmps34
  go_wp2_with (go_at_call 38; refine hin.mono ?_; rintro e w1 ⟨rfl, rfl⟩)
  have hd := H.out.below (Below.refl w.heap.size w).drew
  have HD := Lib.hid hd
  clear hd
  go_region_with (go_at_call 23; (with_reducible refine (HR.out _ HD.out).mono ?_); rintro e w2 ⟨rfl, hb⟩)
  all_goals
    go_wp2
    go_ret2
    exact ⟨rfl, (Below.refl w.heap.size w).drew.trans hb⟩

set_option maxHeartbeats 1000000 in
theorem zwrite_ok {B b : Nat} {w0 w : World} {Z : List (Nat × Int × Int)} {D : DS} (h : OwnZ B w0 b Z D w) (zb : Nat) (f s : Nat) (hz : (zb, (f : Int), (s : Int)) ∈ Z) (ha : D.away = false) (hf : D.fuse = -1) (hd : D.done < 1000000) (hl : D.loose.length < 1000000)
    (i : Nat) (hi : i < s) (hfs : f + s ≤ D.safe.length) (hn : D.safe.length ≤ 1000000) (x : ByteArray) (hx : x.size = 32) :
    Calls Try.prog 21 #[.pointer (some ⟨zb, 0, none⟩), .int .i64 i, .string x] w fun e w' => e = .returned (.int .i64 0) ∧ OwnZ B w0 b Z (D.written (f + i : Nat) x) w' := by
  have hzb := (h.zn _ hz).1
  have hin := isIn_any b f s i zb w hzb
  rw [decide_eq_true (by omega)] at hin
  have hwr : ∀ w1, OwnZ B w0 b Z D w1 → Calls Try.prog 10 #[.pointer (some ⟨b, 0, none⟩), .int .i64 ((f : Int) + i), .string x] w1 fun e w' => e = .returned (.int .i64 0) ∧ OwnZ B w0 b Z (D.written (f + i : Nat) x) w' := by
    intro w1 h1
    have hex : ∃ S, DkAt w1 b D S ∧ (∀ x ∈ S, B ≤ x) ∧ ∀ z ∈ Z, z.1 ∉ S := h1.dk
    obtain ⟨S, k1, k2, k3⟩ := hex
    refine (write_dk k1 ha (by omega) hd hl ((f : Int) + i) x hx (by omega) (by omega)).mono fun e w' ⟨e1, e2⟩ => ⟨e1, ?_⟩
    have hz := Nat.le_trans h1.hB h1.bel.size
    obtain ⟨S', q1, q2, q3⟩ := e2
    refine ⟨⟨S', q1, fun x hx => ?_, fun z hz hm => ?_⟩, fun z hz => ⟨by rw [q3.block z.1 (lt_of_block (h1.zn z hz).1) (k3 z hz)]; exact (h1.zn z hz).1, (h1.zn z hz).2⟩, h1.bel.trans (q3.below k2 hz), h1.hB⟩
    · rcases q2 x hx with h | h
      · exact k2 x h
      · omega
    · rcases q2 _ hm with h | h
      · exact k3 z hz h
      · have := lt_of_block (h1.zn z hz).1; omega
  have c0 : w.cell? ⟨zb, 0, none⟩ = some (.pointer (some ⟨b, 0, none⟩)) := by simp [World.cell?, hzb, znRow]
  have c1 : w.cell? ⟨zb, 1, none⟩ = some (.int .i64 f) := by simp [World.cell?, hzb, znRow]
  have c2 : w.cell? ⟨zb, 2, none⟩ = some (.int .i64 s) := by simp [World.cell?, hzb, znRow]
  have hw1 : IntKind.i64.wrap ((f : Int) + i) = (f : Int) + i := IntWalk.i64_in _ (by omega)
  have hx' : ((x.size : Int) == 32) = true := by simp [hx]
  have H := Lib.hid h
  have HR := Lib.hid hwr
  clear h hwr hz hzb hi hfs hn hx hd hl hf
  go_enter Try.func21, Try.ntmps21
  go_wp2_with (go_at_call 38; refine hin.mono ?_; rintro e w1 ⟨rfl, rfl⟩)
  have hd := H.out.below (Below.refl w.heap.size w).drew
  have HD := Lib.hid hd
  clear hd
  go_region_with (go_at_call 10; (with_reducible refine (HR.out _ HD.out).mono ?_); rintro e w2 ⟨rfl, h2⟩; have H2 := Lib.hid h2; clear h2)
  all_goals
    go_wp2
    go_ret
    exact ⟨rfl, H2.out⟩
end Go.Proofs.Ytlfeedjgimnahaa
