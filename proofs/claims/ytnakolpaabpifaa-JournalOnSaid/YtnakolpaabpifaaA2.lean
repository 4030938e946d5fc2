/- The contracts of the disk's other methods. -/
import Derived.Test.YtnakolpaabpifaaA1
set_option linter.unusedVariables false
set_option linter.unusedSimpArgs false
namespace Go.Proofs.Ytnakolpaabpifaa
open Go.RowKit Go.Proofs.YtnakolpaabpifaaW.PrintWords

set_option maxHeartbeats 400000 in
theorem sync_nil (w : World) : Calls Try.prog 16 #[.pointer none] w fun e w' => e = .returned (.int .i64 42) ∧ w = w' := by
  go_enter Try.func16, Try.ntmps16
  go_wp2_with (go_at_call 36; refine (begin_nil _).mono ?_; rintro e w' ⟨rfl, rfl⟩)
  go_ret
  exact ⟨rfl, rfl⟩

set_option maxHeartbeats 400000 in
theorem sync_any (w : World) (S : Nat → Prop) (g : Nat) (D : DS) (hd : DiskAt w S g D) :
    Calls Try.prog 16 #[.pointer (some ⟨g, 0, none⟩)] w fun e w' => e = .returned (.int .i64 D.sync.1) ∧ DiskAt w' S g D.sync.2 ∧ Fr S w w' := by
  rcases hbg : D.begin with ⟨t, D1⟩
  have hh : Hid (D.begin = (t, D1)) := hbg
  clear hbg
  cases t with
  | false =>
    go_enter Try.func16, Try.ntmps16
    go_wp2_with (go_at_call 36; refine (begin_is _ S g D D1 false hd hh).mono ?_; rintro e w' ⟨rfl, hd1, hf1⟩)
    go_ret
    have h1 := hh.out
    exact ⟨by simp [DS.sync, h1], by simpa [DS.sync, h1] using hd1, hf1⟩
  | true =>
    go_enter Try.func16, Try.ntmps16
    go_wp2_with (go_at_call 36; refine (begin_is _ S g D D1 true hd hh).mono ?_; rintro e w' ⟨rfl, hd1, hf1⟩; obtain ⟨v, hb, ho, hs, hk⟩ := hd1; obtain ⟨A1, c1, rfl, hl1, hr1⟩ := ho.reads; have q1 := blk_cell hb 1; have q2 := blk_cell hb 2; have fz := blk_frozen hb)
    go_ret
    have h1 := hh.out
    have h2 : D1.b = D.b := by have h2 := D.begin_same; rw [h1] at h2; exact h2.2.1
    have h4 : D.sync = (0, { D1 with dur := D1.b.length }) := by unfold DS.sync; rw [h1]; simp [h2]
    rw [h4]
    exact ⟨rfl, .mk _ _ (blk_set hb 2 _) (by rfl) (ho.set hb (by decide) _ _) hs ⟨hk.r0, hk.r1, hk.l, Int.natCast_nonneg _, Int.le_refl _, hk.bytes⟩, hf1.set hs _⟩

theorem size_nil (w : World) : Calls Try.prog 20 #[.pointer none] w fun e w' => e = .returned (.int .i64 0) ∧ w = w' := by
  go_enter Try.func20, Try.ntmps20
  go_wp2
  go_ret
  exact ⟨rfl, rfl⟩
theorem size_any (w : World) (S : Nat → Prop) (g : Nat) (D : DS) (hd : DiskAt w S g D) :
    Calls Try.prog 20 #[.pointer (some ⟨g, 0, none⟩)] w fun e w' => e = .returned (.int .i64 D.b.length) ∧ w = w' := by
  obtain ⟨v, hb, ho, hs, hk⟩ := hd
  obtain ⟨A1, c1, rfl, hl1, hr1⟩ := ho.reads
  have q1 := blk_cell hb 1
  go_enter Try.func20, Try.ntmps20
  go_wp2
  go_ret
  exact ⟨rfl, rfl⟩

theorem ops_nil (w : World) : Calls Try.prog 27 #[.pointer none] w fun e w' => e = .returned (.int .i64 0) ∧ w = w' := by
  go_enter Try.func27, Try.ntmps27
  go_wp2
  go_ret
  exact ⟨rfl, rfl⟩
theorem ops_any (w : World) (S : Nat → Prop) (g : Nat) (D : DS) (hd : DiskAt w S g D) :
    Calls Try.prog 27 #[.pointer (some ⟨g, 0, none⟩)] w fun e w' => e = .returned (.int .i64 D.ops) ∧ w = w' := by
  obtain ⟨v, hb, ho, hs, hk⟩ := hd
  have q1 := blk_cell hb 3
  go_enter Try.func27, Try.ntmps27
  go_wp2
  go_ret
  exact ⟨rfl, rfl⟩

theorem cut_nil (w : World) (n : Int) : Calls Try.prog 25 #[.pointer none, .int .i64 n] w fun e w' => e = .returned (.tuple #[]) ∧ w = w' := by
  go_enter Try.func25, Try.ntmps25
  go_wp2
  refine bodyPost_ret (results_none rfl _ _ _) rfl ?_
  exact ⟨rfl, rfl⟩
set_option maxHeartbeats 400000 in
theorem cut_any (w : World) (S : Nat → Prop) (g : Nat) (D : DS) (n : Int) (hd : DiskAt w S g D) :
    Calls Try.prog 25 #[.pointer (some ⟨g, 0, none⟩), .int .i64 n] w fun e w' => e = .returned (.tuple #[]) ∧ DiskAt w' S g (D.cutAt n) ∧ Fr S w w' := by
  obtain ⟨v, hb, ho, hs, hk⟩ := hd
  have q4 := blk_cell hb 4
  have q5 := blk_cell hb 5
  have q6 := blk_cell hb 6
  have fz := blk_frozen hb
  go_enter Try.func25, Try.ntmps25
  go_wp2
  · refine bodyPost_ret (results_none rfl _ _ _) rfl ?_
    have h1 : D.off = true := by assumption
    exact ⟨rfl, ⟨v, by simpa [DS.cutAt, h1] using hb, by simpa [DS.cutAt, h1] using ho, hs, by simpa [DS.cutAt, h1] using hk⟩, Fr.refl _ _⟩
  · go_end0
    have h1 : D.off = false := by assumption
    refine ⟨rfl, .mk _ v (blk_set (blk_set (blk_set hb 4 _) 5 _) 6 _) (by simp [DS.cutAt, h1])
      (by simpa [DS.cutAt, h1] using ((ho.set hb (by decide) _ _).set (blk_set hb 4 _) (by decide) _ _).set (blk_set (blk_set hb 4 _) 5 _) (by decide) _ _) hs ?_, (((Fr.refl _ _).set hs _).set hs _).set hs _⟩
    simp only [DS.cutAt, h1]
    exact ⟨hk.r0, hk.r1, hk.l, hk.d0, hk.d1, hk.bytes⟩

theorem new_bad (w : World) (room : Int) (h : room < 0 ∨ 262144 < room) : Calls Try.prog 14 #[.int .i64 room] w fun e w' => e = .returned (.tuple #[.pointer none, .int .i64 1]) ∧ w = w' := by
  rcases h with h | h
  · go_enter Try.func14, Try.ntmps14
    go_wp2
    go_ret2
    exact ⟨rfl, rfl⟩
  · have h0 : ¬ room < 0 := by omega
    go_enter Try.func14, Try.ntmps14
    go_wp2
    go_ret2
    exact ⟨rfl, rfl⟩
theorem new_any (w : World) (room : Int) (h0 : 0 ≤ room) (h1 : room ≤ 262144) : Calls Try.prog 14 #[.int .i64 room] w fun e w' => e = .returned (.tuple #[.pointer (some ⟨w.heap.size, 0, none⟩), .int .i64 0]) ∧ DiskAt w' (fun k => k = w.heap.size) w.heap.size (DS.new room) ∧ Below w.heap.size w w' := by
  go_enter Try.func14, Try.ntmps14
  go_wp2
  go_ret2
  refine ⟨rfl, ⟨.slice none 0 0, ?_, OwnB.nil _ _, rfl, ⟨h0, h1, h0, Int.le_refl _, Int.le_refl _, by simp [DS.new]⟩⟩, (Below.refl _ _).alloc (Nat.le_refl _) _⟩
  exact blk_new _ _

set_option maxHeartbeats 400000 in
theorem clone_any (w : World) (A : Option Addr) (n c : Nat) (bs : List Int) (hr : ReadsInt w .u8 A n bs) (hc : n ≤ c) (hl : n ≤ 140737488355328) :
    Calls Try.prog 37 #[.slice A n c] w fun e w' => ∃ A1 c1, e = .returned (.slice A1 n c1) ∧ OwnB w' (fun k => w.heap.size ≤ k) (.slice A1 n c1) bs ∧ Below w.heap.size w w' := by
  have hkn := Lib.run_eql_slice_nil (P := Try.prog)
  cases A with
  | none =>
    have hb : bs = [] := by
      rcases Nat.eq_zero_or_pos n with h | h
      · exact List.eq_nil_of_length_eq_zero (by rw [hr.1, h])
      · obtain ⟨ad, h, _⟩ := hr.2.2 h
        cases h
    go_enter Try.func37, Try.ntmps37
    go_wp2
    go_ret
    subst hb
    obtain rfl : 0 = n := hr.1
    exact ⟨none, 0, rfl, OwnB.nil _ _, Below.refl _ _⟩
  | some ad =>
    have hlen : ([] : List Int).length + n ≤ 140737488355328 := by simpa using hl
    have hlit : OwnB (w.alloc (.cells #[] 5)) (fun k => w.heap.size ≤ k) (.slice (some ⟨w.heap.size, 0, none⟩) 0 0) [] :=
      ⟨own_lit w 0 5 .u8 [] (Nat.zero_le _) (by simp), fun k hk => by simp [Value.ownBlock] at hk; omega⟩
    have hrr : ReadsInt (w.alloc (.cells #[] 5)) .u8 (some ad) n bs := hr.below ((Below.refl _ _).alloc (Nat.le_refl _) _)
    go_enter Try.func37, Try.ntmps37
    go_wp2_with (at_builtin; refine wp_append_bytes (.tmp 5) (.tmp 6) rfl rfl (fun k => w.heap.size ≤ k) _ [] bs (some ad) n c rfl rfl hlit hrr hlen ?_)
    intro A1 c1 w1 ho1 hf1
    go_wp2
    go_ret
    simp only [List.nil_append, List.length_nil, Nat.zero_add] at ho1 ⊢
    refine ⟨A1, c1, rfl, ho1.mono fun k hk => ?_, ?_⟩
    · rcases hk with hk | hk
      · exact hk
      · simp at hk; omega
    · refine ((Below.refl _ _).alloc (Nat.le_refl _) _).trans (hf1.below (by simp) fun k hk => ?_)
      simp [Value.ownBlock] at hk
      omega

theorem read_nil (w : World) : Calls Try.prog 17 #[.pointer none] w fun e w' => e = .returned (.slice none 0 0) ∧ w = w' := by
  go_enter Try.func17, Try.ntmps17
  go_wp2
  go_ret
  exact ⟨rfl, rfl⟩
set_option maxHeartbeats 400000 in
theorem read_any (w : World) (S : Nat → Prop) (g : Nat) (D : DS) (hd : DiskAt w S g D) :
    Calls Try.prog 17 #[.pointer (some ⟨g, 0, none⟩)] w fun e w' => ∃ A1 c1, e = .returned (.slice A1 D.b.length c1) ∧ OwnB w' (fun k => w.heap.size ≤ k) (.slice A1 D.b.length c1) D.b ∧ Below w.heap.size w w' := by
  obtain ⟨v, hb, ho, hs, hk⟩ := hd
  obtain ⟨A1, c1, rfl, hl1, hr1⟩ := ho.reads
  have q1 := blk_cell hb 1
  have hle : D.b.length ≤ 140737488355328 := by have := hk.l; have := hk.r1; omega
  go_enter Try.func17, Try.ntmps17
  go_wp2_with (go_at_call 37; refine (clone_any _ A1 _ c1 D.b hr1 hl1 hle).mono ?_; rintro e w' ⟨A2, c2, rfl, ho1, hb1⟩)
  go_ret
  exact ⟨A2, c2, rfl, ho1, hb1⟩

theorem take_len (l : List Int) (n : Int) (h0 : 0 ≤ n) (h1 : n ≤ l.length) : (l.take n.toNat).length = n.toNat := by
  rw [List.length_take]; omega

theorem OwnB.take {w : World} {S : Nat → Prop} {A : Option Addr} {n c : Nat} {bs : List Int} (h : OwnB w S (.slice A n c) bs) (m : Nat) (hm : m ≤ bs.length) : OwnB w S (.slice A m c) (bs.take m) := by
  obtain ⟨h1, h2⟩ := h
  refine ⟨?_, fun k hk => h2 k (by cases A with
    | none => simp [Value.ownBlock] at hk
    | some a => simpa [Value.ownBlock] using hk)⟩
  rcases h1.2 with ⟨h3, h4⟩ | ⟨g, cap, cur, h3, h4, h5, h6, h7, h8, h9⟩
  · injection h3 with e1 e2 e3
    have hb : bs = [] := List.eq_nil_of_length_eq_zero h4
    subst hb
    obtain rfl : m = 0 := by simpa using hm
    subst e1; subst e3
    exact ⟨by simp [nums], .inl ⟨rfl, by simp⟩⟩
  · injection h3 with e1 e2 e3
    subst e1; subst e3
    have hlm : (bs.take m).length = m := by rw [List.length_take]; omega
    refine ⟨by rw [nums_length]; omega, .inr ⟨g, c, cur, by rw [hlm], h4, h5, by omega, h7, h8, ?_⟩⟩
    rw [hlm]
    have e : nums .u8 (bs.take m) = (nums .u8 bs).take m := by simp [nums, List.map_take]
    rw [e, ← h9, List.take_take]
    congr 1
    omega

set_option maxHeartbeats 400000 in
theorem truncate_nil (w : World) (n : Int) : Calls Try.prog 26 #[.pointer none, .int .i64 n] w fun e w' => e = .returned (.int .i64 42) ∧ w = w' := by
  go_enter Try.func26, Try.ntmps26
  go_wp2_with (go_at_call 36; refine (begin_nil _).mono ?_; rintro e w' ⟨rfl, rfl⟩)
  go_ret
  exact ⟨rfl, rfl⟩

set_option maxHeartbeats 400000 in
theorem truncate_any (w : World) (S : Nat → Prop) (g : Nat) (D : DS) (n : Int) (hd : DiskAt w S g D) :
    Calls Try.prog 26 #[.pointer (some ⟨g, 0, none⟩), .int .i64 n] w fun e w' => e = .returned (.int .i64 (D.truncate n).1) ∧ DiskAt w' S g (D.truncate n).2 ∧ Fr S w w' := by
  rcases hbg : D.begin with ⟨t, D1⟩
  have hh : Hid (D.begin = (t, D1)) := hbg
  clear hbg
  cases t with
  | false =>
    go_enter Try.func26, Try.ntmps26
    go_wp2_with (go_at_call 36; refine (begin_is _ S g D D1 false hd hh).mono ?_; rintro e w' ⟨rfl, hd1, hf1⟩)
    go_ret
    have h1 := hh.out
    exact ⟨by simp [DS.truncate, h1], by simpa [DS.truncate, h1] using hd1, hf1⟩
  | true =>
    have h2 : Hid (D1.b = D.b ∧ D1.dur = D.dur) := by have h2 := D.begin_same; rw [hh.out] at h2; exact h2.2
    by_cases hn : 0 ≤ n ∧ n ≤ D1.b.length
    · obtain ⟨hn0, hn1⟩ := hn
      go_enter Try.func26, Try.ntmps26
      go_wp2_with (go_at_call 36; refine (begin_is _ S g D D1 true hd hh).mono ?_; rintro e w' ⟨rfl, hd1, hf1⟩; obtain ⟨v, hb, ho, hs, hk⟩ := hd1; obtain ⟨A1, c1, rfl, hl1, hr1⟩ := ho.reads; have q1 := blk_cell hb 1; have q2 := blk_cell hb 2; have fz := blk_frozen hb)
      all_goals
        go_ret
        have h1 := hh.out
        have h3 := h2.out
        have h4 : D.truncate n = (0, { D1 with b := D1.b.take n.toNat, dur := min D1.dur n }) := by
          unfold DS.truncate; rw [h1]; simp only [← h3.1, ← h3.2]; rw [if_neg (by simp), if_neg (by omega)]
        rw [h4]
        have hlen := take_len D1.b n hn0 hn1
        refine ⟨rfl, .mk _ _ (blk_set (blk_set hb 1 _) 2 _) (by first | rfl | (show _ = #[_, _, Value.int .i64 (min D1.dur n), _, _, _, _]; rw [show min D1.dur n = n from by omega]; rfl) | (show _ = #[_, _, Value.int .i64 (min D1.dur n), _, _, _, _]; rw [show min D1.dur n = D1.dur from by omega]; rfl))
          (((ho.take n.toNat (by omega)).set hb (by decide) 1 _).set (blk_set hb 1 _) (by decide) 2 _) hs ⟨hk.r0, hk.r1, ?_, ?_, ?_, fun x hx => hk.bytes x (List.mem_of_mem_take hx)⟩, (hf1.set hs _).set hs _⟩
        · have := hk.l; simp only [hlen]; omega
        · have := hk.d0; simp only; omega
        · simp only [hlen]; omega
    · have hn' : n < 0 ∨ (D1.b.length : Int) < n := by omega
      rcases hn' with hn0 | hn1
      · go_enter Try.func26, Try.ntmps26
        go_wp2_with (go_at_call 36; refine (begin_is _ S g D D1 true hd hh).mono ?_; rintro e w' ⟨rfl, hd1, hf1⟩)
        go_ret
        have h1 := hh.out
        have h3 := h2.out
        have h4 : D.truncate n = (1, D1) := by
          unfold DS.truncate; rw [h1]; simp only [← h3.1]; rw [if_neg (by simp), if_pos (.inl hn0)]
        rw [h4]
        exact ⟨rfl, hd1, hf1⟩
      · have hn0 : ¬ n < 0 := by omega
        go_enter Try.func26, Try.ntmps26
        go_wp2_with (go_at_call 36; refine (begin_is _ S g D D1 true hd hh).mono ?_; rintro e w' ⟨rfl, hd1, hf1⟩; have hd2 := hid hd1; obtain ⟨v, hb, ho, hs, hk⟩ := hd1; obtain ⟨A1, c1, rfl, hl1, hr1⟩ := ho.reads; have q1 := blk_cell hb 1; have q2 := blk_cell hb 2; have fz := blk_frozen hb)
        go_ret
        have h1 := hh.out
        have h3 := h2.out
        have h4 : D.truncate n = (1, D1) := by
          unfold DS.truncate; rw [h1]; simp only [← h3.1]; rw [if_neg (by simp), if_pos (.inr hn1)]
        rw [h4]
        exact ⟨rfl, hd2.out, hf1⟩
end Go.Proofs.Ytnakolpaabpifaa
