/- The journal in memory; Len, Dead, Record. -/
import Derived.Test.YtnakolpaabpifaaJ9
set_option linter.unusedVariables false
set_option linter.unusedSimpArgs false
namespace Go.Proofs.Ytnakolpaabpifaa
open Go.RowKit Go.Proofs.YtnakolpaabpifaaW.PrintWords Go.Proofs.YtnakolpaabpifaaW.PrintLast

/-- Rows of bytes of the call's own, all that they lead to in S. -/
abbrev Rows (w : World) (S : Nat → Prop) (v : Value) (xs : List (List Int)) : Prop := Kd.N KB 30 w 0 S v xs
/-- The journal at block g, on the disk dv. -/
def JAt (w : World) (S : Nat → Prop) (g : Nat) (dv : Value) (all : List (List Int)) (dead : Bool) : Prop :=
  ∃ v, w.heap[g]? = some (.cells #[dv, v, .bool dead] 64 (0, 0)) ∧ Rows w (fun k => S k ∧ k ≠ g) v all ∧ S g
theorem JAt.move {w w1 : World} {S : Nat → Prop} {g : Nat} {dv : Value} {all : List (List Int)} {dead : Bool} (h : JAt w S g dv all dead) (hm : ∀ k, S k → k < w.heap.size → w1.heap[k]? = w.heap[k]?) : JAt w1 S g dv all dead := by
  obtain ⟨v, h1, h2, h3⟩ := h
  exact ⟨v, (hm g h3 (blk_lt h1)).trans h1, Kd.N_step h2 (fun k hk hl => hm k hk.1 hl), h3⟩
theorem JAt.fr {w w1 : World} {S S1 : Nat → Prop} {g : Nat} {dv : Value} {all : List (List Int)} {dead : Bool} (h : JAt w S g dv all dead) (hf : Fr S1 w w1) (hd : ∀ k, S k → ¬ S1 k) : JAt w1 S g dv all dead := h.move fun k hk hl => hf.block k hl (hd k hk)
theorem JAt.mono {w : World} {S S1 : Nat → Prop} {g : Nat} {dv : Value} {all : List (List Int)} {dead : Bool} (h : JAt w S g dv all dead) (hs : ∀ k, S k → S1 k) : JAt w S1 g dv all dead := by
  obtain ⟨v, h1, h2, h3⟩ := h
  exact ⟨v, h1, Kd.N_mono h2 (fun k hk => ⟨hs k hk.1, hk.2⟩), hs g h3⟩
theorem JAt.bound {w : World} {S : Nat → Prop} {g : Nat} {dv : Value} {all : List (List Int)} {dead : Bool} (h : JAt w S g dv all dead) : JAt w (fun k => S k ∧ k < w.heap.size) g dv all dead := by
  obtain ⟨v, h1, h2, h3⟩ := h
  exact ⟨v, h1, Kd.N_mono (Kd.N_bound h2) (fun k hk => ⟨⟨hk.1.1, hk.2⟩, hk.1.2⟩), h3, blk_lt h1⟩
theorem JAt.lt {w : World} {S : Nat → Prop} {g : Nat} {dv : Value} {all : List (List Int)} {dead : Bool} (h : JAt w S g dv all dead) : g < w.heap.size := by
  obtain ⟨v, h1, h2, h3⟩ := h
  exact blk_lt h1
theorem JAt.open {w : World} {S : Nat → Prop} {g : Nat} {dv : Value} {all : List (List Int)} {dead : Bool} (h : JAt w S g dv all dead) :
    ∃ A c, w.cell? ⟨g, 0, none⟩ = some dv ∧ w.cell? ⟨g, 1, none⟩ = some (.slice A all.length c) ∧ w.cell? ⟨g, 2, none⟩ = some (.bool dead) ∧ all.length ≤ c ∧ Kd.C KB w A all.length all := by
  obtain ⟨v, h1, h2, h3⟩ := h
  obtain ⟨A, c, rfl, hc, hC⟩ := Kd.N_reads h2
  exact ⟨A, c, blk_cell h1 0, blk_cell h1 1, blk_cell h1 2, hc, hC⟩

set_option maxHeartbeats 400000 in
theorem len_nil (w : World) : Calls Try.prog 34 #[.pointer none] w fun e w' => e = .returned (.int .i64 0) ∧ w = w' := by
  go_enter Try.func34, Try.ntmps34
  go_wp2
  go_ret
  exact ⟨rfl, rfl⟩
set_option maxHeartbeats 400000 in
theorem len_any (w : World) (S : Nat → Prop) (g : Nat) (dv : Value) (all : List (List Int)) (dead : Bool) (n : Int) (h : JAt w S g dv all dead) (hn : Hid ((all.length : Int) = n)) :
    Calls Try.prog 34 #[.pointer (some ⟨g, 0, none⟩)] w fun e w' => e = .returned (.int .i64 n) ∧ w = w' := by
  obtain ⟨A, c, q0, q1, q2, hc, hC⟩ := h.open
  clear h hC
  go_enter Try.func34, Try.ntmps34
  go_wp2
  go_ret
  exact ⟨by rw [← hn.out]; rfl, rfl⟩

set_option maxHeartbeats 400000 in
theorem dead_nil (w : World) : Calls Try.prog 32 #[.pointer none] w fun e w' => e = .returned (.bool true) ∧ w = w' := by
  go_enter Try.func32, Try.ntmps32
  go_wp2
  go_ret
  exact ⟨rfl, rfl⟩
set_option maxHeartbeats 400000 in
theorem dead_zero (w : World) (S : Nat → Prop) (g : Nat) (all : List (List Int)) (dead : Bool) (h : JAt w S g (.pointer none) all dead) : Calls Try.prog 32 #[.pointer (some ⟨g, 0, none⟩)] w fun e w' => e = .returned (.bool true) ∧ w = w' := by
  obtain ⟨A, c, q0, q1, q2, hc, hC⟩ := h.open
  clear h hC
  go_enter Try.func32, Try.ntmps32
  go_wp2
  go_ret
  exact ⟨rfl, rfl⟩
set_option maxHeartbeats 400000 in
theorem dead_any (w : World) (S : Nat → Prop) (g : Nat) (gd : Nat) (all : List (List Int)) (dead : Bool) (h : JAt w S g (.pointer (some ⟨gd, 0, none⟩)) all dead) :
    Calls Try.prog 32 #[.pointer (some ⟨g, 0, none⟩)] w fun e w' => e = .returned (.bool dead) ∧ w = w' := by
  obtain ⟨A, c, q0, q1, q2, hc, hC⟩ := h.open
  clear h hC
  go_enter Try.func32, Try.ntmps32
  go_wp2
  go_ret
  exact ⟨rfl, rfl⟩

set_option maxHeartbeats 400000 in
theorem record_nil (w : World) (k : Int) : Calls Try.prog 35 #[.pointer none, .int .i64 k] w fun e w' => e = .returned (.tuple #[.slice none 0 0, .int .i64 45]) ∧ w = w' := by
  by_cases h : k < 0
  · go_enter Try.func35, Try.ntmps35
    go_wp2
    go_ret2
    exact ⟨rfl, rfl⟩
  · go_enter Try.func35, Try.ntmps35
    go_wp2_with fail
    refine (len_nil _).mono ?_
    rintro e w' ⟨rfl, rfl⟩
    go_wp2
    go_ret2
    exact ⟨rfl, rfl⟩
set_option maxHeartbeats 400000 in
theorem record_none (w : World) (S : Nat → Prop) (g : Nat) (dv : Value) (all : List (List Int)) (dead : Bool) (k n : Int) (h : JAt w S g dv all dead) (hn : Hid ((all.length : Int) = n)) (hk : k < 0 ∨ n ≤ k) :
    Calls Try.prog 35 #[.pointer (some ⟨g, 0, none⟩), .int .i64 k] w fun e w' => e = .returned (.tuple #[.slice none 0 0, .int .i64 45]) ∧ w = w' := by
  by_cases h0 : k < 0
  · clear hk
    go_enter Try.func35, Try.ntmps35
    go_wp2
    go_ret2
    exact ⟨rfl, rfl⟩
  · have hk' : n ≤ k := by omega
    clear hk
    go_enter Try.func35, Try.ntmps35
    go_wp2_with fail
    refine (len_any _ S g dv all dead n h hn).mono ?_
    rintro e w' ⟨rfl, rfl⟩
    go_wp2
    go_ret2
    exact ⟨rfl, rfl⟩
set_option maxHeartbeats 400000 in
theorem record_any (w : World) (S : Nat → Prop) (g : Nat) (dv : Value) (all : List (List Int)) (dead : Bool) (k : Nat) (x : List Int) (m : Nat) (h : JAt w S g dv all dead) (hk : all[k]? = some x) (hx : x.length = m) (hm : m ≤ 100000) :
    Calls Try.prog 35 #[.pointer (some ⟨g, 0, none⟩), .int .i64 (k : Int)] w fun e w' => ∃ A c, e = .returned (.tuple #[.slice A m c, .int .i64 0]) ∧ OwnB w' (fun k => w.heap.size ≤ k) (.slice A m c) x ∧ Below w.heap.size w w' := by
  obtain ⟨hkl, rfl⟩ := List.getElem?_eq_some_iff.1 hk
  obtain ⟨A, c, q0, q1, q2, hc, hC⟩ := h.open
  obtain ⟨ad, A0, c0, rfl, y1, y2, y3⟩ := row_at hC k hkl
  rw [hx] at y1 y2 y3
  generalize all[k]'hkl = x at *
  clear hk hC
  generalize hN : all.length = N at *
  have hkN : (k : Int) < (N : Int) := by omega
  have hN' := hid hN
  clear hN hx hkl
  go_enter Try.func35, Try.ntmps35
  go_wp2_with fail
  refine (len_any _ S g dv all dead N h (hid (by rw [hN'.out]))).mono ?_
  rintro e w' ⟨rfl, rfl⟩
  go_wp2_with fail
  refine (clone_any _ A0 _ c0 _ y3 y2 (by omega)).mono ?_
  rintro e w1 ⟨A1, c1, rfl, ho1, hb1⟩
  clear q0 q1 q2 y1 y3
  go_wp2
  go_ret2
  exact ⟨A1, c1, rfl, ho1, hb1⟩
end Go.Proofs.Ytnakolpaabpifaa
