/- The contract of the disk's counter of operations. -/
import Derived.Test.YtnakolpaabpifaaA0
set_option linter.unusedVariables false
namespace Go.Proofs.Ytnakolpaabpifaa
open Go.RowKit Go.Proofs.YtnakolpaabpifaaW.PrintWords

set_option maxHeartbeats 400000 in
theorem begin_nil (w : World) : Calls Try.prog 36 #[.pointer none] w fun e w' => e = .returned (.bool false) ∧ w = w' := by
  go_enter Try.func36, Try.ntmps36
  go_wp2
  go_ret
  exact ⟨rfl, rfl⟩

set_option maxHeartbeats 400000 in
theorem begin_any (w : World) (S : Nat → Prop) (g : Nat) (D : DS) (hd : DiskAt w S g D) :
    Calls Try.prog 36 #[.pointer (some ⟨g, 0, none⟩)] w fun e w' => e = .returned (.bool D.begin.1) ∧ DiskAt w' S g D.begin.2 ∧ Fr S w w' := by
  obtain ⟨v, hb, ho, hs, hk⟩ := hd
  have c3 := blk_cell hb 3
  have c4 := blk_cell hb 4
  have c5 := blk_cell hb 5
  have c6 := blk_cell hb 6
  have fz := blk_frozen hb
  go_enter Try.func36, Try.ntmps36
  go_wp2
  · go_ret
    have h1 : D.off = true := by assumption
    exact ⟨by simp [DS.begin, h1], .mk _ v (blk_set hb 3 _) (by simp [DS.begin, h1]) (by simpa [DS.begin, h1] using ho.set hb (by decide) _ _) hs hk.begin, (Fr.refl _ _).set hs _⟩
  · go_ret
    have h1 : D.off = false := by assumption
    have h2 : D.cut = true := by assumption
    exact ⟨by simp [DS.begin, h1, h2], .mk _ v (blk_set (blk_set (blk_set hb 3 _) 5 _) 6 _) (by simp [DS.begin, h1, h2])
      (by simpa [DS.begin, h1, h2] using ((ho.set hb (by decide) _ _).set (blk_set hb 3 _) (by decide) _ _).set (blk_set (blk_set hb 3 _) 5 _) (by decide) _ _) hs hk.begin, (((Fr.refl _ _).set hs _).set hs _).set hs _⟩
  · go_ret
    have h1 : D.off = false := by assumption
    have h2 : D.cut = false := by assumption
    exact ⟨by simp [DS.begin, h1, h2], .mk _ v (blk_set hb 3 _) (by simp [DS.begin, h1, h2]) (by simpa [DS.begin, h1, h2] using ho.set hb (by decide) _ _) hs hk.begin, (Fr.refl _ _).set hs _⟩

/-- The same, the answer named. -/
theorem begin_is (w : World) (S : Nat → Prop) (g : Nat) (D D1 : DS) (t : Bool) (hd : DiskAt w S g D) (h : Hid (D.begin = (t, D1))) :
    Calls Try.prog 36 #[.pointer (some ⟨g, 0, none⟩)] w fun e w' => e = .returned (.bool t) ∧ DiskAt w' S g D1 ∧ Fr S w w' := by
  have := begin_any w S g D hd
  rw [h.out] at this
  exact this

set_option maxHeartbeats 400000 in
theorem append_any (w : World) (S : Nat → Prop) (g : Nat) (D : DS) (hd : DiskAt w S g D) (A : Option Addr) (n c : Nat) (bs : List Int) (hr : ReadsInt w .u8 A n bs) (hc : n ≤ c) (ha : ∀ ad, A = some ad → 0 < n → ¬ S ad.block)
    (hby : ∀ x ∈ bs, 0 ≤ x ∧ x < 256) :
    Calls Try.prog 15 #[.pointer (some ⟨g, 0, none⟩), .slice A n c] w fun e w' => e = .returned (.int .i64 (D.append bs).1) ∧ DiskAt w' (Ext S w) g (D.append bs).2 ∧ Fr S w w' := by
  rcases hbg : D.begin with ⟨t, D1⟩
  have hh : Hid (D.begin = (t, D1)) := hbg
  clear hbg
  cases t with
  | false =>
    go_enter Try.func15, Try.ntmps15
    go_wp2_with (go_at_call 36; refine (begin_is _ S g D D1 false hd hh).mono ?_; rintro e w' ⟨rfl, hd1, hf1⟩)
    go_ret
    have h1 := hh.out
    exact ⟨by simp [DS.append, h1], by simpa [DS.append, h1] using hd1.mono (fun k hk => .inl hk), hf1⟩
  | true =>
    go_enter Try.func15, Try.ntmps15
    go_wp2_with (go_at_call 36; refine (begin_is _ S g D D1 true hd hh).mono ?_; rintro e w' ⟨rfl, hd1, hf1⟩)
    obtain ⟨v, hb, ho, hs, hk⟩ := hd1
    obtain ⟨A1, c1, rfl, hl1, hr1⟩ := ho.reads
    have q0 := blk_cell hb 0
    have q1 := blk_cell hb 1
    have fz := blk_frozen hb
    have r0 := hk.r0
    have r1 := hk.r1
    have r2 := hk.l
    have r3 : D1.room = D.room ∧ D1.b = D.b := by have := D.begin_same; rw [hh.out] at this; exact ⟨this.1, this.2.1⟩
    have R3 := hid r3
    clear r3
    have hn : bs.length = n := hr.1
    have HN := hid hn
    clear hn
    have hF := hid (hf1.trans (Fr.refl S w') (fun k hk => .inl hk))
    have hrr : ReadsInt w' .u8 A n bs := by
      refine ⟨hr.1, hr.2.1, fun h => ?_⟩
      obtain ⟨ad, h1, h2⟩ := hr.2.2 h
      exact ⟨ad, h1, fun j hj => hf1.cell (h2 j hj) (by rw [show (ad.add j).block = ad.block from by unfold Addr.add; split <;> rfl]; exact ha ad h1 h)⟩
    by_cases hfull : D1.room - (D1.b.length : Int) < (n : Int)
    · go_quiet (fail)
      go_wp2
      go_ret
      have h1 := hh.out
      have h2 := R3.out
      have h3 := HN.out
      have h4 : D.append bs = (43, D1) := by unfold DS.append; rw [h1]; simp only [← h2.1, ← h2.2, h3]; rw [if_neg (by simp), if_pos hfull]
      rw [h4]
      exact ⟨rfl, ⟨_, hb, ⟨ho.1, fun k hk => .inl (ho.2 k hk)⟩, .inl hs, hk⟩, hf1.drewN nq⟩
    · go_quiet (fail)
      go_wp2_with (at_builtin; refine wp_append_bytes (.tmp 25) (.tmp 26) rfl rfl S _ D1.b bs A n c rfl rfl ⟨ho.1, ho.2⟩ ⟨hrr.1, hrr.2.1, hrr.2.2⟩ ?hl ?_)
      case hl => omega
      intro A2 c2 w1 ho1 hf2
      have hb1 := hf2.blk (g := g) hb (ho.ne hb (by decide))
      have fz1 := blk_frozen hb1
      have q1' := blk_cell hb1 1
      have hown := hid (OwnB.set ho1 hb1 (by decide) 1 (.slice A2 (D1.b.length + n) c2))
      have hF2 := hid (hf2.mono (S1 := S) (fun k hk => ho.2 k hk))
      clear ho1 hf2 hb q0 q1 fz
      go_wp2
      go_ret
      have h1 := hh.out
      have h2 := R3.out
      have h3 := HN.out
      have h4 : D.append bs = (0, { D1 with b := D1.b ++ bs }) := by unfold DS.append; rw [h1]; simp only [← h2.1, ← h2.2, h3]; rw [if_neg (by simp), if_neg (by omega)]
      rw [h4]
      have hsz : (w'.drewN nq).heap.size = w'.heap.size := rfl
      refine ⟨rfl, .mk _ _ (blk_set hb1 1 _) (by rfl) (hown.out.mono fun k hk => ?_) (.inl hs) ⟨r0, r1, ?_, hk.d0, ?_, ?_⟩, ?_⟩
      · rcases hk with hk | hk
        · exact .inl hk
        · have := hf1.size; exact .inr (by omega)
      · simp only [List.length_append]; omega
      · have := hk.d1; simp only [List.length_append]; omega
      · intro x hx
        rcases List.mem_append.1 hx with hx | hx
        · exact hk.bytes x hx
        · exact hby x hx
      · exact ((hf1.drewN nq).trans hF2.out (fun k hk => .inl hk)).set hs _
end Go.Proofs.Ytnakolpaabpifaa
