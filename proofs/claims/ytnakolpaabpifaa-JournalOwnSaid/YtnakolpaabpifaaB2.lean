/- The reference's disk: its operations. -/
import Derived.Test.YtnakolpaabpifaaB1
set_option linter.unusedVariables false
set_option linter.unusedSimpArgs false
namespace Go.Proofs.Ytnakolpaabpifaa
open Go.RowKit Go.Proofs.YtnakolpaabpifaaW.PrintWords

theorem own_empty (w : World) : OwnB (w.alloc (.cells #[] 5)) (fun k => w.heap.size ≤ k) (.slice (some ⟨w.heap.size, 0, none⟩) 0 0) [] :=
  ⟨own_lit w 0 5 .u8 [] (Nat.zero_le _) (by simp), fun k hk => by simp [Value.ownBlock] at hk; omega⟩

set_option maxHeartbeats 800000 in
theorem ref_append (w : World) (S : Nat → Prop) (g : Nat) (D : DS) (hd : RefAt w S g D) (A : Option Addr) (n c : Nat) (bs : List Int) (hr : ReadsInt w .u8 A n bs) (hc : n ≤ c) (ha : ∀ ad, A = some ad → 0 < n → ¬ S ad.block)
    (hby : ∀ x ∈ bs, 0 ≤ x ∧ x < 256) (hn : n ≤ 281474976710656) :
    Calls Try.prog 38 #[.pointer (some ⟨g, 0, none⟩), .slice A n c] w fun e w' => e = .returned (.int .i64 (D.append bs).1) ∧ RefAt w' (Ext S w) g (D.append bs).2 ∧ Fr S w w' := by
  rcases hbg : D.begin with ⟨t, D1⟩
  have hh : Hid (D.begin = (t, D1)) := hbg
  clear hbg
  cases t with
  | false =>
    go_enter Try.func38, Try.ntmps38
    go_wp2_with (go_at_call 47; refine (ref_begin_is _ S g D D1 false hd hh).mono ?_; rintro e w' ⟨rfl, hd1, hf1⟩)
    go_ret
    have h1 := hh.out
    exact ⟨by simp [DS.append, h1], by simpa [DS.append, h1] using hd1.mono (fun k hk => .inl hk), hf1⟩
  | true =>
    go_enter Try.func38, Try.ntmps38
    go_wp2_with (go_at_call 47; refine (ref_begin_is _ S g D D1 true hd hh).mono ?_; rintro e w' ⟨rfl, hd1, hf1⟩)
    obtain ⟨v, cc, l, hb, ho, hs, hk, hrc⟩ := hd1
    obtain ⟨A1, c1, rfl, hl1, hr1⟩ := ho.reads
    have q0 := blk_cell hb 0
    have q3 := blk_cell hb 3
    have fz := blk_frozen hb
    have r0 := hk.r0
    have r1 := hk.r1
    have r2 := hk.l
    have r3 : D1.room = D.room ∧ D1.b = D.b := by have := D.begin_same; rw [hh.out] at this; exact ⟨this.1, this.2.1⟩
    have R3 := hid r3
    clear r3
    have hnl : bs.length = n := hr.1
    have HN := hid hnl
    clear hnl
    have hrr : ReadsInt w' .u8 A n bs := by
      refine ⟨hr.1, hr.2.1, fun h => ?_⟩
      obtain ⟨ad, h1, h2⟩ := hr.2.2 h
      exact ⟨ad, h1, fun j hj => hf1.cell (h2 j hj) (by rw [show (ad.add j).block = ad.block from by unfold Addr.add; split <;> rfl]; exact ha ad h1 h)⟩
    by_cases hfull : D1.room < (D1.b.length : Int) + (n : Int)
    · go_quiet (fail)
      go_wp2
      go_ret
      have h1 := hh.out
      have h2 := R3.out
      have h3 := HN.out
      have h4 : D.append bs = (43, D1) := by unfold DS.append; rw [h1]; simp only [← h2.1, ← h2.2, h3]; rw [if_neg (by simp), if_pos (by omega)]
      rw [h4]
      exact ⟨rfl, ⟨_, cc, l, hb, ⟨ho.1, fun k hk => .inl (ho.2 k hk)⟩, .inl hs, hk, hrc⟩, hf1.drewN nq⟩
    · go_quiet (fail)
      have hbx : (w'.drewN nq).heap[g]? = _ := hb
      have hox : OwnB (w'.drewN nq) S (.slice A1 D1.b.length c1) D1.b := ho.move fun _ _ _ => rfl
      have hrx : ReadsInt (w'.drewN nq) .u8 A1 D1.b.length D1.b := hr1.below (pw_below_drewN (Below.refl _ _) nq)
      have hrrx : ReadsInt (w'.drewN nq) .u8 A n bs := hrr.below (pw_below_drewN (Below.refl _ _) nq)
      have hfx : Fr S w (w'.drewN nq) := hf1.drewN nq
      have qx3 := blk_cell hbx 3
      have fzx := blk_frozen hbx
      clear hb ho hr1 hrr hf1 q0 q3 fz
      generalize w'.drewN nq = wx at *
      have hw1 : Below wx.heap.size wx (wx.alloc (.cells #[] 5)) := (Below.refl _ _).alloc (Nat.le_refl _) _
      have hra := hrx.below hw1
      have qa3 : (wx.alloc (.cells #[] 5)).cell? ⟨g, 3, none⟩ = some (.slice A1 D1.b.length c1) := pw_cell_below hw1 (blk_cell hbx 3)
      have hl5 : ([] : List Int).length + D1.b.length ≤ 140737488355328 := by simp; omega
      have hl6 : D1.b.length + n ≤ 140737488355328 := by omega
      have hoe := own_empty wx
      go_wp2_with (at_builtin; refine wp_append_bytes (.tmp 21) (.tmp 25) rfl rfl (fun k => wx.heap.size ≤ k) _ [] D1.b A1 _ c1 rfl rfl hoe hra hl5 ?_)
      intro A2 c2 w2 ho2 hf2
      have hb2 : Below wx.heap.size wx w2 := hw1.trans (hf2.below (by simp) fun k hk => by simp [Value.ownBlock] at hk; omega)
      have hrb2 : ReadsInt w2 .u8 A n bs := hrrx.below hb2
      clear hf2 hra hrx hoe qa3 qx3 fzx
      go_wp2_with (at_builtin; refine wp_append_bytes (.tmp 26) (.tmp 27) rfl rfl _ _ D1.b bs A n c rfl rfl ho2 hrb2 hl6 ?_)
      intro A3 c3 w3 ho3 hf3
      have hlt := blk_lt hbx
      have hb3 := hf3.blk (g := g) ((hb2.block g hlt).trans hbx) (fun h => by
        have := ho2.2 g h
        unfold Ext at this; simp at this; omega)
      have q3 := blk_cell hb3 3
      have fz := blk_frozen hb3
      have hown := hid (OwnB.set ho3 hb3 (by decide) 3 (.slice A3 (D1.b.length + n) c3))
      have hsz := hb2.size
      have hF := hid (hfx.trans ((Fr.of_below (S := fun _ => False) hb2).trans (hf3.mono (S1 := fun k => wx.heap.size ≤ k) (fun k hk => by
        have := ho2.2 k hk
        unfold Ext at this; simp at this; omega)) (fun k hk => .inr hk)) (fun k hk => absurd hk id))
      clear ho3 hf3 hbx ho2
      go_wp2
      go_ret
      have h1 := hh.out
      have h2 := R3.out
      have h3 := HN.out
      have h4 : D.append bs = (0, { D1 with b := D1.b ++ bs }) := by unfold DS.append; rw [h1]; simp only [← h2.1, ← h2.2, h3]; rw [if_neg (by simp), if_neg (by omega)]
      rw [h4]
      have hs1 := hfx.size
      refine ⟨rfl, .mk _ _ cc l (blk_set hb3 3 _) (by rfl) (hown.out.mono fun k hk => ?_) (.inl hs) ⟨r0, r1, ?_, hk.d0, ?_, ?_⟩ hrc, hF.out.set hs _⟩
      · refine .inr ?_
        rcases hk with hk | hk
        · unfold Ext at hk; simp at hk; omega
        · omega
      · simp only [List.length_append]; omega
      · have := hk.d1; simp only [List.length_append]; omega
      · intro x hx
        rcases List.mem_append.1 hx with hx | hx
        · exact hk.bytes x hx
        · exact hby x hx
end Go.Proofs.Ytnakolpaabpifaa
