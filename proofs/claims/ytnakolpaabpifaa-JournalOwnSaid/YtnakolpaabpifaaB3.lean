/- The reference's disk: Sync, Truncate, Cut. -/
import Derived.Test.YtnakolpaabpifaaB2
set_option linter.unusedVariables false
set_option linter.unusedSimpArgs false
namespace Go.Proofs.Ytnakolpaabpifaa
open Go.RowKit Go.Proofs.YtnakolpaabpifaaW.PrintWords

set_option maxHeartbeats 400000 in
theorem ref_sync (w : World) (S : Nat → Prop) (g : Nat) (D : DS) (hd : RefAt w S g D) :
    Calls Try.prog 39 #[.pointer (some ⟨g, 0, none⟩)] w fun e w' => e = .returned (.int .i64 D.sync.1) ∧ RefAt w' S g D.sync.2 ∧ Fr S w w' := by
  rcases hbg : D.begin with ⟨t, D1⟩
  have hh : Hid (D.begin = (t, D1)) := hbg
  clear hbg
  cases t with
  | false =>
    go_enter Try.func39, Try.ntmps39
    go_wp2_with (go_at_call 47; refine (ref_begin_is _ S g D D1 false hd hh).mono ?_; rintro e w' ⟨rfl, hd1, hf1⟩)
    go_ret
    have h1 := hh.out
    exact ⟨by simp [DS.sync, h1], by simpa [DS.sync, h1] using hd1, hf1⟩
  | true =>
    go_enter Try.func39, Try.ntmps39
    go_wp2_with (go_at_call 47; refine (ref_begin_is _ S g D D1 true hd hh).mono ?_; rintro e w' ⟨rfl, hd1, hf1⟩; obtain ⟨v, cc, l, hb, ho, hs, hk, hrc⟩ := hd1; obtain ⟨A1, c1, rfl, hl1, hr1⟩ := ho.reads; have q1 := blk_cell hb 1; have q3 := blk_cell hb 3; have fz := blk_frozen hb)
    go_ret
    have h1 := hh.out
    have h2 : D1.b = D.b := by have h2 := D.begin_same; rw [h1] at h2; exact h2.2.1
    have h4 : D.sync = (0, { D1 with dur := D1.b.length }) := by unfold DS.sync; rw [h1]; simp [h2]
    rw [h4]
    exact ⟨rfl, .mk _ _ cc l (blk_set hb 1 _) (by rfl) (ho.set hb (by decide) _ _) hs ⟨hk.r0, hk.r1, hk.l, Int.natCast_nonneg _, Int.le_refl _, hk.bytes⟩ hrc, hf1.set hs _⟩

set_option maxHeartbeats 400000 in
theorem ref_cut (w : World) (S : Nat → Prop) (g : Nat) (D : DS) (n : Int) (hd : RefAt w S g D) (hn : n ≤ 9223372036854775807) :
    Calls Try.prog 41 #[.pointer (some ⟨g, 0, none⟩), .int .i64 n] w fun e w' => e = .returned (.tuple #[]) ∧ RefAt w' S g (D.cutAt n) ∧ Fr S w w' := by
  obtain ⟨v, c, l, hb, ho, hs, hk, hr⟩ := hd
  have q4 := blk_cell hb 4
  have q5 := blk_cell hb 5
  have fz := blk_frozen hb
  have hout : D.off = false → RefAt ((w.setCell ⟨g, 4, none⟩ (.bool true)).setCell ⟨g, 5, none⟩ (.int .i64 (max n 0))) S g (D.cutAt n) := by
    intro h1
    refine .mk _ v true (max n 0) (blk_set (blk_set hb 4 _) 5 _) (by simp [DS.cutAt, h1])
      (by simpa [DS.cutAt, h1] using (ho.set hb (by decide) _ _).set (blk_set hb 4 _) (by decide) _ _) hs ?_ ?_
    · simp only [DS.cutAt, h1]
      exact ⟨hk.r0, hk.r1, hk.l, hk.d0, hk.d1, hk.bytes⟩
    · simp only [DS.cutAt, h1]
      by_cases h2 : n < 1
      · exact .inl ⟨by simp [h2], rfl, by omega⟩
      · exact .inr (.inr ⟨by simp [h2], rfl, rfl, by simp; omega, by omega, by omega⟩)
  have hmax : n < 0 → max n 0 = 0 := fun h => by omega
  have hmax2 : 0 ≤ n → max n 0 = n := fun h => by omega
  rcases hr with ⟨h1, rfl, rfl⟩ | ⟨h1, h2, rfl⟩ | ⟨h1, h2, rfl, h3, h4, h5⟩
  · have H1 := hid h1
    have Hout := hid hout
    clear h1 hout hmax hmax2
    go_enter Try.func41, Try.ntmps41
    go_wp2
    refine bodyPost_ret (results_none rfl _ _ _) rfl ?_
    have h1 := H1.out
    exact ⟨rfl, ⟨v, true, 0, by simpa [DS.cutAt, h1] using hb, by simpa [DS.cutAt, h1] using ho, hs, by simpa [DS.cutAt, h1] using hk, .inl ⟨by simp [DS.cutAt, h1], rfl, rfl⟩⟩, Fr.refl _ _⟩
  · have H1 := hid (hout h1)
    have H2 := hid hmax
    have H3 := hid hmax2
    clear h1 h2 hmax hmax2 hout
    by_cases hn0 : n < 0
    all_goals
      go_enter Try.func41, Try.ntmps41
      go_wp2
      go_end0
      have h1 := H1.out
      first
        | rw [H2.out (by omega)] at h1
        | rw [H3.out (by omega)] at h1
      exact ⟨rfl, h1, ((Fr.refl _ _).set hs _).set hs _⟩
  · have H1 := hid (hout h1)
    have H2 := hid hmax
    have H3 := hid hmax2
    have hl0 : (l == 0) = false := by simp; omega
    clear h1 h2 h3 hmax hmax2 hout
    by_cases hn0 : n < 0
    all_goals
      go_enter Try.func41, Try.ntmps41
      go_wp2
      go_end0
      have h1 := H1.out
      first
        | rw [H2.out (by omega)] at h1
        | rw [H3.out (by omega)] at h1
      exact ⟨rfl, h1, ((Fr.refl _ _).set hs _).set hs _⟩

set_option maxHeartbeats 800000 in
theorem ref_truncate (w : World) (S : Nat → Prop) (g : Nat) (D : DS) (n : Int) (hd : RefAt w S g D) :
    Calls Try.prog 40 #[.pointer (some ⟨g, 0, none⟩), .int .i64 n] w fun e w' => e = .returned (.int .i64 (D.truncate n).1) ∧ RefAt w' (Ext S w) g (D.truncate n).2 ∧ Fr S w w' := by
  rcases hbg : D.begin with ⟨t, D1⟩
  have hh : Hid (D.begin = (t, D1)) := hbg
  clear hbg
  cases t with
  | false =>
    go_enter Try.func40, Try.ntmps40
    go_wp2_with (go_at_call 47; refine (ref_begin_is _ S g D D1 false hd hh).mono ?_; rintro e w' ⟨rfl, hd1, hf1⟩)
    go_ret
    have h1 := hh.out
    exact ⟨by simp [DS.truncate, h1], by simpa [DS.truncate, h1] using hd1.mono (fun k hk => .inl hk), hf1⟩
  | true =>
    have h2 : Hid (D1.b = D.b ∧ D1.dur = D.dur) := by have h2 := D.begin_same; rw [hh.out] at h2; exact h2.2
    by_cases hn : 0 ≤ n ∧ n ≤ D1.b.length
    · obtain ⟨hn0, hn1⟩ := hn
      go_enter Try.func40, Try.ntmps40
      go_wp2_with (first
        | (go_at_call 47; refine (ref_begin_is _ S g D D1 true hd hh).mono ?_; rintro e w' ⟨rfl, hd1, hf1⟩; obtain ⟨v, cc, l, hb, ho, hs, hk, hrc⟩ := hd1; obtain ⟨A1, c1, rfl, hl1, hr1⟩ := ho.reads; have q1 := blk_cell hb 1; have q3 := blk_cell hb 3; have fz := blk_frozen hb; have qa3 := pw_cell_below ((Below.refl _ w').alloc (Nat.le_refl _) (.cells #[] 5)) (show w'.cell? ⟨g, 3, none⟩ = some (.slice A1 D1.b.length c1) from blk_cell hb 3); have hrt := hr1.take_ n.toNat (by omega); have hrt1 := hrt.below ((Below.refl _ w').alloc (Nat.le_refl _) (.cells #[] 5)); have hoe := own_empty w')
        | (at_builtin; refine wp_append_bytes (.tmp 19) (.tmp 25) rfl rfl (fun k => w'.heap.size ≤ k) _ [] (D1.b.take n.toNat) A1 n.toNat c1 rfl rfl hoe hrt1 ?hl ?_))
      case hl => have := hk.l; have := hk.r1; simp; omega
      intro A2 c2 w2 ho2 hf2
      have hb2 : Below w'.heap.size w' w2 := ((Below.refl _ w').alloc (Nat.le_refl _) (.cells #[] 5)).trans (hf2.below (by simp) fun k hk => by simp [Value.ownBlock] at hk; omega)
      have hlt := blk_lt hb
      have hbb := (hb2.block g hlt).trans hb
      have x1 : w2.cell? ⟨g, 1, none⟩ = some (.int .i64 D1.dur) := blk_cell hbb 1
      have x3 : w2.cell? ⟨g, 3, none⟩ = some (.slice A1 D1.b.length c1) := blk_cell hbb 3
      have xf := blk_frozen hbb
      have hown := hid (OwnB.set (OwnB.set ho2 hbb (by decide) 3 (.slice A2 n.toNat c2)) (blk_set hbb 3 _) (by decide) 1 (.int .i64 (min D1.dur n)))
      have hsz := hb2.size
      have hF := hid (hf1.trans (Fr.of_below (S := S) hb2) (fun k hk => .inl hk))
      clear hf2 hb ho hr1 q1 q3 fz qa3 hrt hrt1 hoe ho2
      have hmn : Hid (min D1.dur n = if n < D1.dur then n else D1.dur) := hid (by split <;> omega)
      go_wp2
      all_goals
        go_ret
        have h1 := hh.out
        have h3 := h2.out
        have h4 : D.truncate n = (0, { D1 with b := D1.b.take n.toNat, dur := min D1.dur n }) := by
          unfold DS.truncate; rw [h1]; simp only [← h3.1, ← h3.2]; rw [if_neg (by simp), if_neg (by omega)]
        rw [h4]
        have hlen := take_len D1.b n hn0 hn1
        have hm := hown.out
        first
          | rw [show min D1.dur n = n from by omega] at hm ⊢
          | rw [show min D1.dur n = D1.dur from by omega] at hm ⊢
        have hs1 := hf1.size
        refine ⟨rfl, .mk _ _ cc l (blk_set (blk_set hbb 3 _) 1 _) (by rfl) (hm.mono fun k hk => ?_) (.inl hs) ⟨hk.r0, hk.r1, ?_, ?_, ?_, fun x hx => hk.bytes x (List.mem_of_mem_take hx)⟩ hrc, (hF.out.set hs _).set hs _⟩
        · refine .inr ?_
          unfold Ext at hk; simp at hk; omega
        · have := hk.l; simp only [hlen]; omega
        · have := hk.d0; simp only; omega
        · simp only [hlen]; omega
    · have hn' : n < 0 ∨ (D1.b.length : Int) < n := by omega
      rcases hn' with hn0 | hn1
      · go_enter Try.func40, Try.ntmps40
        go_wp2_with (go_at_call 47; refine (ref_begin_is _ S g D D1 true hd hh).mono ?_; rintro e w' ⟨rfl, hd1, hf1⟩)
        go_ret
        have h1 := hh.out
        have h3 := h2.out
        have h4 : D.truncate n = (1, D1) := by
          unfold DS.truncate; rw [h1]; simp only [← h3.1]; rw [if_neg (by simp), if_pos (.inl hn0)]
        rw [h4]
        exact ⟨rfl, hd1.mono fun k hk => .inl hk, hf1⟩
      · have hn0 : ¬ n < 0 := by omega
        go_enter Try.func40, Try.ntmps40
        go_wp2_with (go_at_call 47; refine (ref_begin_is _ S g D D1 true hd hh).mono ?_; rintro e w' ⟨rfl, hd1, hf1⟩; have hd2 := hid hd1; obtain ⟨v, cc, l, hb, ho, hs, hk, hrc⟩ := hd1; obtain ⟨A1, c1, rfl, hl1, hr1⟩ := ho.reads; have q1 := blk_cell hb 1; have q3 := blk_cell hb 3; have fz := blk_frozen hb)
        go_ret
        have h1 := hh.out
        have h3 := h2.out
        have h4 : D.truncate n = (1, D1) := by
          unfold DS.truncate; rw [h1]; simp only [← h3.1]; rw [if_neg (by simp), if_pos (.inr hn1)]
        rw [h4]
        exact ⟨rfl, hd2.out.mono fun k hk => .inl hk, hf1⟩
end Go.Proofs.Ytnakolpaabpifaa
