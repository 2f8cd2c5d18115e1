/- Contracts of Disk.Cut, Disk.use and Disk.Write over the state of a disk. -/
import Derived.Test.YtlfeedjgimnahaaDe
namespace Go.Proofs.Ytlfeedjgimnahaa
open Go.RowKit Go.Proofs.Ytlfeedjgimnahaa.Mem
set_option linter.unusedVariables false

def DS.spent (D : DS) : DS := { D with fuse := max (D.fuse - 1) (-1), done := D.done + 1 }
def DS.cutBy (D : DS) (ks : List Bool) : DS := { D with away := true, safe := keepN D.loose ks D.safe D.loose.length, loose := [] }
def DS.cut (D : DS) : DS := D.cutBy D.keep
def DS.written (D : DS) (at_ : Int) (s : ByteArray) : DS := { D.spent with loose := D.loose ++ [(at_, s)] }

theorem DS.Ok.spent {D : DS} (h : D.Ok) (hd : D.done < 1000000) : D.spent.Ok := by
  obtain ⟨l, f1, f2, d1, d2, ln, kn⟩ := h
  exact ⟨l, by show -1 ≤ max (D.fuse - 1) (-1); omega, by show max (D.fuse - 1) (-1) ≤ 9223372036854775807; omega, by show 0 ≤ D.done + 1; omega, by show D.done + 1 ≤ 1000000; omega, ln, kn⟩
theorem DS.Ok.cutBy {D : DS} (h : D.Ok) (ks : List Bool) : (D.cutBy ks).Ok := by
  obtain ⟨l, f1, f2, d1, d2, ln, kn⟩ := h
  exact ⟨(fun x hx => by cases hx), f1, f2, d1, d2, by simp [DS.cutBy], kn⟩

/-- Cut by whatever row of bools lies in a block that is not the disk's own -/
theorem cut_dk {w : World} {b : Nat} {D : DS} {S : List Nat} (h : DkAt w b D S) (ha : D.away = false) (ka : Option Addr) (kb ko kc : Nat) (ks : List Bool)
    (hk : ∀ j, j < ks.length → w.cell? ⟨kb, ko + j, none⟩ = some (.bool (ks.getD j false))) (hkn : 0 < ks.length → kb ∉ S) (hka : 0 < ks.length → ka = some ⟨kb, ko, none⟩) (hkl : ks.length ≤ 1000000) :
    Calls Try.prog 26 #[.pointer (some ⟨b, 0, none⟩), .slice ka ks.length kc] w fun e w' => e = .returned (.tuple #[]) ∧ DkStep w b S (D.cutBy ks) w' := by
  obtain ⟨kv, sg, sc, lv, h, hin⟩ := h
  have hb := h.blk
  rw [ha] at hb
  refine (cut_on b D.fuse D.done kv sg sc lv D.safe D.loose ks ka kb ko kc w hb h.safe h.loose h.bs h.sl h.bl h.ok.l h.ok.ln hk (fun h0 e => hkn h0 (e ▸ hin.2.1)) hka hkl).mono ?_
  rintro e w' ⟨rfl, h1, h2, h3⟩
  refine ⟨rfl, S, ⟨kv, sg, sc, .slice none 0 0, ⟨?_, ?_, World.ownsRow_nil _ _ _ _, ?_, h.bs, by simp [Value.ownBlock], by simp [Value.ownBlock], h.bk, h.sk, by simp [Value.ownBlock], h.ok.cutBy ks⟩, hin.1, hin.2.1, by simp [Value.ownBlock], hin.2.2.2⟩, fun x hx => .inl hx, h3.mono ?_⟩
  · simpa [DS.cutBy, keepN_len] using h1
  · simpa [DS.cutBy, keepN_len] using h2
  · exact own_out h.keep h3 (by intro k hk; have := h.bk; have := h.sk; simp; refine ⟨?_, ?_⟩ <;> rintro rfl <;> contradiction)
  · intro x hx
    simp at hx
    rcases hx with rfl | rfl
    · exact .inl hin.1
    · exact .inl hin.2.1

theorem use_cut {w : World} {b : Nat} {D : DS} {S : List Nat} (h : DkAt w b D S) (ha : D.away = false) (hf : D.fuse = 0) :
    Calls Try.prog 31 #[.pointer (some ⟨b, 0, none⟩)] w fun e w' => e = .returned (.int .i64 4) ∧ DkStep w b S D.cut w' := by
  obtain ⟨kv, sg, sc, lv, hh, hin⟩ := h
  have h : DkAt w b D S := ⟨kv, sg, sc, lv, hh, hin⟩
  obtain ⟨c0, c1, c2, c3, c4, c5, f⟩ := dk_cells hh.blk
  obtain ⟨ka, kc, rfl, hkc, hka⟩ := own_slice hh.keep
  have hcut : Calls Try.prog 26 #[.pointer (some ⟨b, 0, none⟩), .slice ka D.keep.length kc] w fun e w' => e = .returned (.tuple #[]) ∧ DkStep w b S D.cut w' := by
    by_cases hz : 0 < D.keep.length
    · obtain ⟨g, rfl, hg⟩ := hka hz
      have hb := hh.blk
      rw [ha] at hb
      have hgb : g ≠ sg := fun e => hh.sk (by rw [hg, e])
      refine (cut_on b D.fuse D.done _ sg sc lv D.safe D.loose D.keep (some ⟨g, 0, none⟩) g 0 kc w hb hh.safe hh.loose hh.bs hh.sl hh.bl hh.ok.l hh.ok.ln ?_ (fun _ => hgb) (fun _ => rfl) hh.ok.kn).mono ?_
      · intro j hj
        rw [Nat.zero_add, hh.keep.cellAt j (by simpa using hj)]
        simp [List.getD, hj]
      · rintro e w' ⟨rfl, h1, h2, h3⟩
        refine ⟨rfl, S, ⟨_, sg, sc, .slice none 0 0, ⟨?_, ?_, World.ownsRow_nil _ _ _ _, ?_, hh.bs, by simp [Value.ownBlock], by simp [Value.ownBlock], hh.bk, hh.sk, by simp [Value.ownBlock], hh.ok.cutBy _⟩, hin.1, hin.2.1, by simp [Value.ownBlock], hin.2.2.2⟩, fun x hx => .inl hx, h3.mono ?_⟩
        · simpa [DS.cut, DS.cutBy, keepN_len] using h1
        · simpa [DS.cut, DS.cutBy, keepN_len] using h2
        · exact own_out hh.keep h3 (by intro k hk; have := hh.bk; have := hh.sk; simp; refine ⟨?_, ?_⟩ <;> rintro rfl <;> contradiction)
        · intro x hx
          simp at hx
          rcases hx with rfl | rfl
          · exact .inl hin.1
          · exact .inl hin.2.1
    · have hk0 : D.keep = [] := List.eq_nil_of_length_eq_zero (by omega)
      have := cut_dk h ha ka 0 0 kc [] (by simp) (by simp) (by simp) (by simp)
      simpa [DS.cut, hk0] using this
  rw [hf] at c1
  clear h hh hin hka
  go_enter Try.func31, Try.ntmps31
  go_wp2_with (go_at_call 26; refine hcut.mono ?_; rintro e w1 ⟨rfl, hs⟩)
  go_ret
  exact ⟨rfl, hs⟩

theorem use_spent {w : World} {b : Nat} {D : DS} {S : List Nat} (h : DkAt w b D S) (ha : D.away = false) (hf : D.fuse ≠ 0) (hd : D.done < 1000000) :
    Calls Try.prog 31 #[.pointer (some ⟨b, 0, none⟩)] w fun e w' => e = .returned (.int .i64 0) ∧ DkStep w b S D.spent w' := by
  obtain ⟨kv, sg, sc, lv, h, hin⟩ := h
  refine (use_on b D.away D.fuse D.done kv _ lv w h.blk (by simpa using hf) h.ok.f1 h.ok.f2 h.ok.d1 h.ok.d2).mono ?_
  rintro e w' ⟨rfl, h1, h2⟩
  exact ⟨rfl, S, ⟨kv, sg, sc, lv, ⟨h1, own_out h.safe h2 (by intro k hk; simp [Value.ownBlock] at hk; subst hk; simp; exact fun e => h.bs e.symm), own_out h.loose h2 (by intro k hk; have := h.bl; simp; rintro rfl; contradiction),
    own_out h.keep h2 (by intro k hk; have := h.bk; simp; rintro rfl; contradiction), h.bs, h.bl, h.sl, h.bk, h.sk, h.kl, h.ok.spent hd⟩, hin⟩, fun x hx => .inl hx, h2.mono (by intro x hx; simp at hx; subst hx; exact .inl hin.1)⟩

/-- Write where the power is there, and the fuse isn't at its end -/
theorem write_dk {w : World} {b : Nat} {D : DS} {S : List Nat} (h : DkAt w b D S) (ha : D.away = false) (hf : D.fuse ≠ 0) (hd : D.done < 1000000) (hl : D.loose.length < 1000000) (at_ : Int) (s : ByteArray)
    (hs : s.size = 32) (h0 : 0 ≤ at_) (hn : at_ < D.safe.length) :
    Calls Try.prog 10 #[.pointer (some ⟨b, 0, none⟩), .int .i64 at_, .string s] w fun e w' => e = .returned (.int .i64 0) ∧ DkStep w b S (D.written at_ s) w' := by
  obtain ⟨kv, sg, sc, lv, h, hin⟩ := h
  have hb := h.blk
  rw [ha] at hb
  refine (write_on b at_ s D.fuse D.done kv sg D.safe.length sc lv D.loose w hb h.loose h.bl h.ok.ln hs h0 hn (by simpa using hf) h.ok.f1 h.ok.f2 h.ok.d1 h.ok.d2).mono ?_
  rintro e w' ⟨rfl, g, c, h1, h2, h3, h4⟩
  have hsg := lt_of_block h.blk
  have hgb : g ≠ b := by
    rintro rfl
    rcases h3 with h3 | h3
    · exact h.bl h3
    · omega
  have hsl : sg < w.heap.size := (h.safe.lt sg rfl).2
  have hgs : g ≠ sg := by
    rintro rfl
    rcases h3 with h3 | h3
    · exact h.sl h3
    · omega
  refine ⟨rfl, S ++ [g], ⟨kv, sg, sc, .slice (some ⟨g, 0, none⟩) (D.loose.length + 1) c, ⟨?_, ?_, ?_, ?_, h.bs, ?_, ?_, h.bk, h.sk, ?_, ?_⟩, ?_⟩, ?_, ?_⟩
  · rw [show (D.written at_ s).away = false from ha]; exact h1
  · refine own_out h.safe h4 ?_
    intro k hk; simp [Value.ownBlock] at hk; subst hk; simp only [List.mem_cons, Option.mem_toList, not_or]; exact ⟨fun e => h.bs e.symm, h.sl⟩
  · simpa [DS.written] using h2
  · refine own_out h.keep h4 ?_
    intro k hk; simp only [List.mem_cons, Option.mem_toList, not_or]; exact ⟨by rintro rfl; exact h.bk hk, h.kl k hk⟩
  · simpa [Value.ownBlock] using hgb
  · simpa [Value.ownBlock] using hgs
  · intro k hk e
    simp only [Value.ownBlock, Option.some.injEq] at e
    subst e
    rcases h3 with h3 | h3
    · exact h.kl _ hk h3
    · have := (h.keep.lt _ hk).2; omega
  · have k := h.ok.spent hd
    refine ⟨?_, k.f1, k.f2, k.d1, k.d2, ?_, k.kn⟩
    · intro x hx
      simp only [DS.written, List.mem_append, List.mem_singleton] at hx
      rcases hx with hx | rfl
      · exact h.ok.l x hx
      · exact ⟨h0, hn⟩
    · simp [DS.written]; omega
  · refine ⟨by simp [hin.1], by simp [hin.2.1], ?_, fun k hk => by simp [hin.2.2.2 k hk]⟩
    intro k hk; simp only [Value.ownBlock, Option.some.injEq] at hk; simp [hk]
  · intro x hx
    simp at hx
    rcases hx with hx | rfl
    · exact .inl hx
    · rcases h3 with h3 | h3
      · exact .inl (hin.2.2.1 _ h3)
      · exact .inr h3
  · refine h4.mono ?_
    intro x hx
    simp only [List.mem_cons, Option.mem_toList] at hx
    rcases hx with rfl | hx
    · exact .inl hin.1
    · exact .inl (hin.2.2.1 _ hx)

/-- Write where the power is away -/
theorem write_away {w : World} {b : Nat} {D : DS} {S : List Nat} (h : DkAt w b D S) (ha : D.away = true) (at_ : Int) (s : ByteArray) (hs : s.size = 32) (h0 : 0 ≤ at_) (hn : at_ < D.safe.length) :
    Calls Try.prog 10 #[.pointer (some ⟨b, 0, none⟩), .int .i64 at_, .string s] w fun e w' => e = .returned (.int .i64 4) ∧ w = w' := by
  obtain ⟨kv, sg, sc, lv, h, hin⟩ := h
  have hc := check_ok b at_ D.away D.fuse D.done kv lv (some ⟨sg, 0, none⟩) D.safe.length sc w h.blk
  rw [if_neg (by omega), ha, if_pos rfl] at hc
  have hs' : ((s.size : Int) == 32) = true := by simp [hs]
  clear hs h hin
  go_enter Try.func10, Try.ntmps10
  go_wp2_with (go_at_call 32; refine hc.mono ?_; rintro e w' ⟨rfl, rfl⟩)
  go_ret
  exact ⟨rfl, rfl⟩

/-- Write where the fuse is at its end -/
theorem write_cut {w : World} {b : Nat} {D : DS} {S : List Nat} (h : DkAt w b D S) (ha : D.away = false) (hf : D.fuse = 0) (at_ : Int) (s : ByteArray) (hs : s.size = 32) (h0 : 0 ≤ at_) (hn : at_ < D.safe.length) :
    Calls Try.prog 10 #[.pointer (some ⟨b, 0, none⟩), .int .i64 at_, .string s] w fun e w' => e = .returned (.int .i64 4) ∧ DkStep w b S D.cut w' := by
  have hu := use_cut h ha hf
  obtain ⟨kv, sg, sc, lv, h, hin⟩ := h
  have hc := check_ok b at_ D.away D.fuse D.done kv lv (some ⟨sg, 0, none⟩) D.safe.length sc w h.blk
  rw [if_neg (by omega), ha] at hc
  simp only [Bool.false_eq_true, if_false] at hc
  have hs' : ((s.size : Int) == 32) = true := by simp [hs]
  clear hs h hin hf
  go_enter Try.func10, Try.ntmps10
  go_wp2_with (first | (go_at_call 32; refine hc.mono ?_; rintro e w' ⟨rfl, rfl⟩) | (go_at_call 31; refine hu.mono ?_; rintro e w1 ⟨rfl, hs1⟩))
  go_ret
  exact ⟨rfl, hs1⟩
end Go.Proofs.Ytlfeedjgimnahaa
