/- The walk of the law DiskNew. -/
import Derived.Test.YtnakolpaabpifaaA5
set_option linter.unusedVariables false
set_option linter.unusedSimpArgs false
namespace Go.Proofs.Ytnakolpaabpifaa.diskNew
open Go.RowKit
open Go.Proofs.YtnakolpaabpifaaW.PrintWords

def newCode (room : Int) : Int := if room < 0 ∨ 262144 < room then 1 else 0
theorem new_code (w : World) (room : Int) : Calls Try.prog 14 #[.int .i64 room] w fun e w' => ∃ p, e = .returned (.tuple #[.pointer p, .int .i64 (newCode room)]) ∧ Below w.heap.size w w' := by
  by_cases h : room < 0 ∨ 262144 < room
  · refine (new_bad w room h).mono ?_
    rintro e w1 ⟨rfl, rfl⟩
    exact ⟨none, by unfold newCode; rw [if_pos h], Below.refl _ _⟩
  · refine (new_any w room (by omega) (by omega)).mono ?_
    rintro e w1 ⟨rfl, _, hb⟩
    exact ⟨_, by unfold newCode; rw [if_neg h], hb⟩
theorem ref_bad (w : World) (room : Int) (h : room < 0 ∨ 262144 < room) : Calls Try.prog 21 #[.int .i64 room] w fun e w' => e = .returned (.tuple #[.pointer none, .int .i64 1]) ∧ w = w' := by
  rcases h with h | h
  · go_enter Try.func21, Try.ntmps21
    go_wp2
    go_ret2
    exact ⟨rfl, rfl⟩
  · have h0 : ¬ room < 0 := by omega
    go_enter Try.func21, Try.ntmps21
    go_wp2
    go_ret2
    exact ⟨rfl, rfl⟩
theorem ref_good (w : World) (room : Int) (h0 : 0 ≤ room) (h1 : room ≤ 262144) : Calls Try.prog 21 #[.int .i64 room] w fun e w' => e = .returned (.tuple #[.pointer (some ⟨w.heap.size, 0, none⟩), .int .i64 0]) ∧ Below w.heap.size w w' := by
  go_enter Try.func21, Try.ntmps21
  go_wp2
  go_ret2
  exact ⟨rfl, (Below.refl _ _).alloc (Nat.le_refl _) _⟩
theorem ref_code (w : World) (room : Int) : Calls Try.prog 21 #[.int .i64 room] w fun e w' => ∃ p, e = .returned (.tuple #[.pointer p, .int .i64 (newCode room)]) ∧ Below w.heap.size w w' := by
  by_cases h : room < 0 ∨ 262144 < room
  · refine (ref_bad w room h).mono ?_
    rintro e w1 ⟨rfl, rfl⟩
    exact ⟨none, by unfold newCode; rw [if_pos h], Below.refl _ _⟩
  · refine (ref_good w room (by omega) (by omega)).mono ?_
    rintro e w1 ⟨rfl, hb⟩
    exact ⟨_, by unfold newCode; rw [if_neg h], hb⟩

theorem append_nil (w : World) (A : Option Addr) (n c : Nat) : Calls Try.prog 15 #[.pointer none, .slice A n c] w fun e w' => e = .returned (.int .i64 42) ∧ w = w' := by
  go_enter Try.func15, Try.ntmps15
  go_wp2_with (go_at_call 36; refine (begin_nil _).mono ?_; rintro e w' ⟨rfl, rfl⟩)
  go_ret
  exact ⟨rfl, rfl⟩

theorem append_zero (bs : List Int) : (DS.new 0).append bs = (if bs.length = 0 then 0 else 43, ⟨0, [], 0, 1, false, 0, false⟩) := by
  unfold DS.append
  have hb : (DS.new 0).begin = (true, ⟨0, [], 0, 1, false, 0, false⟩) := by simp [DS.begin, DS.new, wrap64]
  rw [hb, if_neg (by simp)]
  by_cases h : bs.length = 0
  · have : bs = [] := List.eq_nil_of_length_eq_zero h
    subst this
    simp [DS.new]
  · rw [if_pos (by simp [DS.new]; omega), if_neg h]

set_option maxRecDepth 100000 in
set_option maxHeartbeats 2000000 in
theorem walk (room near : Int) (a0 : Option Addr) (len0 cap0 : Nat) (z0 : List Int) (n : Int) (w : World) (hw1 : (Lit.int .i64 room).wf = true) (hw2 : (Lit.int .i8 near).wf = true) (hw3 : IsRow .u8 w a0 len0 cap0 z0) (hw4 : (Lit.int .i64 n).wf = true) :
    Calls Try.prog 6 #[.int .i64 room, .int .i8 near, .slice a0 len0 cap0, .int .i64 n] w fun e w' => e = .returned (.bool true) ∧ Below w.heap.size w w' := by
  obtain ⟨hr, hc, hby, hbl⟩ := hw3.reads
  generalize z0.take len0 = bs at *
  have Hl := hid hr.1
  have hmx := hr.2.1
  clear hw1 hw2 hw3 hw4
  by_cases hg : 20 < (len0 : Int)
  · go_enter Try.func6, Try.ntmps6
    go_wp2_with (go_at_call 19; refine (awake_disk _).mono ?_; rintro e w' ⟨rfl, hb⟩)
    go_ret
    exact ⟨rfl, hb⟩
  · have hn1 : -3 < near.tmod 3 := Int.lt_tmod_of_pos near (by decide)
    have hn2 : near.tmod 3 < 3 := Int.tmod_lt_of_pos near (by decide)
    go_enter Try.func6, Try.ntmps6
    go_wp2_with fail
    refine (new_code _ room).mono ?_
    rintro e w1 ⟨p1, rfl, hb1⟩
    go_wp2_with fail
    refine (ref_code _ room).mono ?_
    rintro e w2 ⟨p2, rfl, hb2⟩
    have hb2' := hb1.trans (hb2.mono hb1.size)
    clear hb1 hb2
    go_wp2_with fail
    refine (new_code _ _).mono ?_
    rintro e w3 ⟨p3, rfl, hb3⟩
    have hb3' := hb2'.trans (hb3.mono hb2'.size)
    clear hb2' hb3
    go_wp2_with fail
    refine (ref_code _ _).mono ?_
    rintro e w4 ⟨p4, rfl, hb4⟩
    have hb4' := hb3'.trans (hb4.mono hb3'.size)
    clear hb3' hb4
    go_wp2_with fail
    refine (cut_nil _ n).mono ?_
    rintro e w5 ⟨rfl, rfl⟩
    have hr4 := (hr.below (w1 := w4) ⟨hb4'.os, hb4'.tape, hb4'.output, hb4'.size, hb4'.block⟩)
    clear hr
    go_wp2_with fail
    have hz : DiskAt (w4.alloc (.cells #[.int .i64 0, .slice none 0 0, .int .i64 0, .int .i64 0, .bool false, .int .i64 0, .bool false] 49)) (fun k => k = w4.heap.size) w4.heap.size (DS.new 0) :=
      ⟨.slice none 0 0, blk_new _ _, OwnB.nil _ _, rfl, ⟨Int.le_refl _, by decide, Int.le_refl _, Int.le_refl _, Int.le_refl _, by simp [DS.new]⟩⟩
    have hB4 := hb4'.alloc hb4'.size (.cells #[.int .i64 0, .slice none 0 0, .int .i64 0, .int .i64 0, .bool false, .int .i64 0, .bool false] 49)
    have hr5 := hr4.below ((Below.refl _ _).alloc (Nat.le_refl _) (.cells #[.int .i64 0, .slice none 0 0, .int .i64 0, .int .i64 0, .bool false, .int .i64 0, .bool false] 49))
    have hs4 := hb4'.size
    by_cases hz0 : len0 = 0
    all_goals
      refine (append_is _ _ _ _ ⟨0, [], 0, 1, false, 0, false⟩ (if len0 = 0 then 0 else 43) hz a0 len0 cap0 bs hr5 hc (fun ad h hp hk => by have := hbl ad h hp; omega) hby (hid (by rw [append_zero, Hl.out]))).mono ?_
      rintro e w6 ⟨rfl, hd6, hf6⟩
      have hb6 := hB4.trans (hf6.below (B := w.heap.size) (by simp; omega) (fun k hk => by omega))
      simp only [hz0, if_true, if_false]
      clear hd6 hf6 hr5 hr4 hB4 hz hb4'
      go_wp2_with fail
      refine (awake_disk _).mono ?_
      rintro e w7 ⟨rfl, hb7⟩
      have hb8 := hb6.trans (hb7.mono hb6.size)
      clear hb6 hb7
      go_wp2_with (first
        | (go_at_call 15; refine (append_nil _ _ _ _).mono ?_; rintro e w' ⟨rfl, rfl⟩)
        | (go_at_call 16; refine (sync_nil _).mono ?_; rintro e w' ⟨rfl, rfl⟩)
        | (go_at_call 26; refine (truncate_nil _ _).mono ?_; rintro e w' ⟨rfl, rfl⟩)
        | (go_at_call 20; refine (size_nil _).mono ?_; rintro e w' ⟨rfl, rfl⟩)
        | (go_at_call 27; refine (ops_nil _).mono ?_; rintro e w' ⟨rfl, rfl⟩)
        | (go_at_call 17; refine (read_nil _).mono ?_; rintro e w' ⟨rfl, rfl⟩)
        | (go_at_call 18; refine (crash_nil _ _ _).mono ?_; rintro e w' ⟨rfl, rfl⟩))
      go_ret
      refine ⟨?_, hb8⟩
      first | rfl | (have hp : 0 < len0 := by omega
                     simp [hz0, hp])
end Go.Proofs.Ytnakolpaabpifaa.diskNew
