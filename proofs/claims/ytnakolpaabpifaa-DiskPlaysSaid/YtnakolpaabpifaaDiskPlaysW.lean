/- The walk of the law DiskPlays. -/
import Derived.Test.YtnakolpaabpifaaB6
set_option linter.unusedVariables false
set_option linter.unusedSimpArgs false
namespace Go.Proofs.Ytnakolpaabpifaa.diskPlays
open Go.RowKit
open Go.Proofs.YtnakolpaabpifaaW.PrintWords

theorem ref_new (w : World) (room : Int) (h0 : 0 ≤ room) (h1 : room ≤ 262144) : Calls Try.prog 21 #[.int .i64 room] w fun e w' => e = .returned (.tuple #[.pointer (some ⟨w.heap.size, 0, none⟩), .int .i64 0]) ∧ RefAt w' (fun k => k = w.heap.size) w.heap.size (DS.new room) ∧ Below w.heap.size w w' := by
  go_enter Try.func21, Try.ntmps21
  go_wp2
  go_ret2
  refine ⟨rfl, ⟨.slice none 0 0, false, 0, blk_new _ _, OwnB.nil _ _, rfl, ⟨h0, h1, h0, Int.le_refl _, Int.le_refl _, by simp [DS.new]⟩, .inr (.inl ⟨rfl, rfl, rfl⟩)⟩, (Below.refl _ _).alloc (Nat.le_refl _) _⟩

/-- A pair of the call's own, between blocks B and the end. -/
structure Pair (B : Nat) (w0 w : World) (g1 g2 : Nat) (D : DS) : Prop where
  at_ : Both w (fun k => B ≤ k ∧ k < w.heap.size) g1 g2 D
  below : Below B w0 w
  le : B ≤ w.heap.size
theorem Pair.keep {B g1 g2 : Nat} {w0 w w1 : World} {D : DS} (h : Pair B w0 w g1 g2 D) (hb : Below w.heap.size w w1) : Pair B w0 w1 g1 g2 D :=
  ⟨(h.at_.move fun k _ hk => hb.block k hk).mono fun k hk => ⟨hk.1, by have := hb.size; have := hk.2; omega⟩, h.below.trans (hb.mono h.le), by have := hb.size; have := h.le; omega⟩
theorem Pair.step {B g1 g2 : Nat} {w0 w w1 : World} {D : DS} (h : Pair B w0 w g1 g2 D) (hs : StepPost w (fun k => B ≤ k ∧ k < w.heap.size) g1 g2 w1) : ∃ D', Pair B w0 w1 g1 g2 D' := by
  obtain ⟨D', h1, h2⟩ := hs
  have hz := h2.size
  have hl := h.le
  exact ⟨D', h1.bound.mono fun k hk => by
    rcases hk.1 with h | h
    · exact ⟨h.1, hk.2⟩
    · exact ⟨by omega, hk.2⟩, h.below.trans (h2.below hl fun k hk => hk.1), by omega⟩

theorem Pair.under {B g1 g2 gx gy : Nat} {w0 w3 wr : World} {D X : DS} (h3 : Both w3 (fun k => B ≤ k ∧ k < w3.heap.size) g1 g2 D) (hB : B ≤ w3.heap.size) (hb : Below B w0 w3) (q : Pair w3.heap.size w3 wr gx gy X) : Pair B w0 wr g1 g2 D :=
  ⟨(h3.move fun k hk _ => q.below.block k hk.2).mono fun k hk => ⟨hk.1, by have := q.le; have := hk.2; omega⟩, hb.trans (q.below.mono hB), by have := q.le; omega⟩
theorem read_pair {B g1 g2 : Nat} {w0 w : World} {D : DS} {L : List Int} (h : Pair B w0 w g1 g2 D) (hL : Hid (D.b = L)) :
    Calls Try.prog 17 #[.pointer (some ⟨g1, 0, none⟩)] w fun e w' => ∃ A1 c1, e = .returned (.slice A1 L.length c1) ∧ OwnB w' (fun k => w.heap.size ≤ k) (.slice A1 L.length c1) L ∧ Below w.heap.size w w' := by
  obtain ⟨S1, S2, a, b, _⟩ := h.at_
  have := read_any w S1 g1 D a
  rw [hL.out] at this
  exact this
theorem crash_pair {B g1 g2 : Nat} {w0 w : World} {D : DS} (keep flip : Int) (h : Pair B w0 w g1 g2 D) :
    Calls Try.prog 18 #[.pointer (some ⟨g1, 0, none⟩), .int .i64 keep, .int .i64 flip] w fun e w' => ∃ g', e = .returned (.pointer (some ⟨g', 0, none⟩)) ∧ Hid (DiskAt w' (fun k => w.heap.size ≤ k) g' (D.crash keep flip)) ∧ Pair B w0 w' g1 g2 D ∧ Below w.heap.size w w' := by
  obtain ⟨S1, S2, a, b, _⟩ := h.at_
  exact (crash_any w S1 g1 D keep flip a).mono fun e w' ⟨g', he, hd, hb⟩ => ⟨g', he, hid hd, h.keep hb, hb⟩
theorem crash_ref {B g1 g2 gx : Nat} {w0 w w4 : World} {D : DS} (keep flip : Int) (h : Pair B w0 w4 g1 g2 D) (hd : Hid (DiskAt w4 (fun k => w.heap.size ≤ k) gx (D.crash keep flip))) (hb : Below w.heap.size w w4) :
    Calls Try.prog 24 #[.pointer (some ⟨g2, 0, none⟩), .int .i64 keep, .int .i64 flip] w4 fun e w' => ∃ g', e = .returned (.pointer (some ⟨g', 0, none⟩)) ∧ Pair w.heap.size w w' gx g' (D.crash keep flip) ∧ Below w4.heap.size w4 w' := by
  obtain ⟨S1, S2, a, b, _⟩ := h.at_
  refine (ref_crash w4 S2 g2 D keep flip b).mono fun e w5 ⟨gy, he, hd5, hb5⟩ => ⟨gy, he, ?_, hb5⟩
  have hz4 := hb.size
  have hz5 := hb5.size
  exact ⟨⟨fun j => w.heap.size ≤ j ∧ j < w4.heap.size, fun j => w4.heap.size ≤ j ∧ j < w5.heap.size, hd.out.bound.move fun j hj _ => hb5.block j hj.2, hd5.bound, fun j hj => ⟨hj.1, by omega⟩, fun j hj => ⟨by omega, hj.2⟩, fun j hj h => by omega⟩, hb.trans (hb5.mono hz4), by omega⟩
theorem alike_pair {B g1 g2 : Nat} {w0 w : World} {D : DS} (h : Pair B w0 w g1 g2 D) :
    Calls Try.prog 23 #[.pointer (some ⟨g1, 0, none⟩), .pointer (some ⟨g2, 0, none⟩)] w fun e w' => e = .returned (.bool true) ∧ Pair B w0 w' g1 g2 D ∧ Below w.heap.size w w' := by
  obtain ⟨S1, S2, a, b, _⟩ := h.at_
  exact (alike_any w S1 S2 g1 g2 D a b).mono fun e w' ⟨he, hb⟩ => ⟨he, h.keep hb, hb⟩
theorem step_pair {B g1 g2 : Nat} {w0 w : World} {D : DS} (x0 x1 x2 : Int) (h : Pair B w0 w g1 g2 D) (hx0 : (Lit.int .u8 x0).wf = true) (hx1 : (Lit.int .u8 x1).wf = true) (hx2 : (Lit.int .u8 x2).wf = true) :
    Calls Try.prog 22 #[.pointer (some ⟨g1, 0, none⟩), .pointer (some ⟨g2, 0, none⟩), .agg #[.int .u8 x0, .int .u8 x1, .int .u8 x2]] w fun e w' => e = .returned (.bool true) ∧ Hid (∃ D', Pair B w0 w' g1 g2 D') ∧ Below B w w' :=
  (step_any w _ g1 g2 D x0 x1 x2 h.at_ (wf_u8 hx0) (wf_u8 hx1) (wf_u8 hx2)).mono fun e w' ⟨he, hs⟩ => ⟨he, h.step hs, by obtain ⟨D', h1, h2⟩ := hs; exact h2.below h.le fun k hk => hk.1⟩

set_option maxRecDepth 100000 in
set_option maxHeartbeats 2000000 in
theorem walk (room : Int) (a1 : Option Addr) (n1 c1 : Nat) (F : Nat → Nat → Int) (keep flip : Int) (a2 : Option Addr) (n2 c2 : Nat) (G : Nat → Nat → Int) (w : World) (hw0 : (Lit.int .u8 room).wf = true) (h1 : IsArr .u8 3 w a1 n1 c1 F) (hw2 : (Lit.int .i64 keep).wf = true) (hw3 : (Lit.int .i64 flip).wf = true) (h2 : IsArr .u8 3 w a2 n2 c2 G) :
    Calls Try.prog 5 #[.int .u8 room, .slice a1 n1 c1, .int .i64 keep, .int .i64 flip, .slice a2 n2 c2] w fun e w' => e = .returned (.bool true) ∧ Below w.heap.size w w' := by
  have H1 := hid h1
  have H2 := hid h2
  have hm1 : n1 ≤ 9223372036854775807 := by have := h1.1; have := h1.2.1; unfold maxLen at this; omega
  have hm2 : n2 ≤ 9223372036854775807 := by have := h2.1; have := h2.2.1; unfold maxLen at this; omega
  have hr := wf_u8 hw0
  have hr0 : 0 ≤ room % 60 := Int.emod_nonneg _ (by decide)
  have hr1 : room % 60 < 60 := Int.emod_lt_of_pos _ (by decide)
  clear h1 h2 hw0 hw2 hw3
  go_enter Try.func5, Try.ntmps5
  go_wp2_with fail
  refine (new_any _ (room % 60) hr0 (by omega)).mono ?_
  rintro e w1 ⟨rfl, hd1, hb1⟩
  go_wp2_with fail
  refine (ref_new _ (room % 60) hr0 (by omega)).mono ?_
  rintro e w2 ⟨rfl, hd2, hb2⟩
  have hp2 : Pair w.heap.size w w2 w.heap.size w1.heap.size (DS.new (room % 60)) := by
    have hl := hd1.lt
    have hz1 := hb1.size
    have hz2 := hb2.size
    refine ⟨⟨fun k => k = w.heap.size, fun k => k = w1.heap.size, hd1.move fun k hk hlt => hb2.block k hlt, hd2, fun k hk => ?_, fun k hk => ?_, fun k hk h => ?_⟩, hb1.trans (hb2.mono hz1), by omega⟩
    · subst hk; omega
    · have := hd2.bound
      obtain ⟨v, c, l, e1, _⟩ := hd2
      have := blk_lt e1
      subst hk; omega
    · omega
  clear hd1 hd2 hb1 hb2
  generalize hg2 : w1.heap.size = g2 at *
  go_wp2_with fail
  go_loopw [15] (fun i wr => ∃ (k : Nat) (D : DS), i = .int .i64 k ∧ k ≤ n1 ∧ Pair w.heap.size w wr w.heap.size g2 D) (fun i _ => n1 - (intOf i).toNat)
  case atStart => exact ⟨0, _, rfl, Nat.zero_le _, hp2⟩
  case round =>
    clear hp2
    obtain ⟨k, D, rfl, hk, hp⟩ := hrel
    by_cases hlt : k < n1 ∧ k < 40
    · obtain ⟨hlt, hlt2⟩ := hlt
      obtain ⟨b, off, rfl, hb, hcell⟩ := H1.out.2.2 (by omega)
      obtain ⟨q0, w0⟩ := hcell k hlt 0 (by decide)
      obtain ⟨q1, w1⟩ := hcell k hlt 1 (by decide)
      obtain ⟨q2, w2⟩ := hcell k hlt 2 (by decide)
      have x0 : wr.cell? ⟨b, off + k * 3, none⟩ = some (.int .u8 (F k 0)) := (hp.below.cell hb).trans q0
      have x1 : wr.cell? ⟨b, off + k * 3 + 1, none⟩ = some (.int .u8 (F k 1)) := (hp.below.cell hb).trans q1
      have x2 : wr.cell? ⟨b, off + k * 3 + 2, none⟩ = some (.int .u8 (F k 2)) := (hp.below.cell hb).trans q2
      clear q0 q1 q2
      go_wp2_with fail
      refine (step_pair _ _ _ hp w0 w1 w2).mono ?_
      rintro e w3 ⟨rfl, hp3, _⟩
      obtain ⟨D3, hp3⟩ := hp3.out
      clear hp x0 x1 x2
      go_wp2_with fail
      refine (alike_pair hp3).mono ?_
      rintro e w4 ⟨rfl, hp4, _⟩
      clear hp3
      go_wp2
      go_roundw
      case rel => exact ⟨k + 1, D3, by go_num, by omega, hp4⟩
      case measure => simp [intOf]; omega
    · have hx : ¬ k < n1 ∨ (k < n1 ∧ ¬ k < 40) := by omega
      rcases hx with hx1 | ⟨hx1, hx2⟩
      all_goals
        go_wp2_with fail
        refine (read_pair hp (hid rfl)).mono ?_
        rintro e w3 ⟨A3, c3, rfl, hd3, hb3⟩
        have hcv := own_string (P := Try.prog) Try.underlying30 Try.underlying5 Try.underlying9 hd3.1
        have hp3 := hp.keep hb3
        clear hd3 hp hb3
        generalize hL : D.b = L at *
        have HL := hid hL
        clear hL
        go_wp2_with fail
        refine (crash_pair keep flip hp3).mono ?_
        rintro e w4 ⟨gx, rfl, hd4, hp4, hb4⟩
        go_wp2_with fail
        refine (crash_ref keep flip hp4 hd4 hb4).mono ?_
        rintro e w5 ⟨gy, rfl, hq5, hb5⟩
        have h3a := hid hp3.at_
        have h3b := hp3.le
        have h3c := hp3.below
        clear hcv hd4 hb4 hp4 hb5 hp3
        generalize D.crash keep flip = X at *
        go_wp2_with fail
        refine (alike_pair hq5).mono ?_
        rintro e w6 ⟨rfl, hq6, hb6⟩
        clear hq5 hb6
        go_wp2_with fail
        refine (read_pair (Pair.under h3a.out h3b h3c hq6) HL).mono ?_
        rintro e w7 ⟨A7, c7, rfl, hd7, hb7⟩
        have hcv := own_string (P := Try.prog) Try.underlying30 Try.underlying5 Try.underlying9 hd7.1
        have hq7 := hq6.keep hb7
        clear hq6 hd7 hb7
        go_wp2_with fail
        refine (alike_pair (Pair.under h3a.out h3b h3c hq7)).mono ?_
        rintro e w8 ⟨rfl, hp8, hb8⟩
        have hq8 := hq7.keep hb8
        clear hq7 hb8 hp8 hcv
        go_wp2_with fail
        go_loopw [19] (fun i wr => ∃ (k : Nat) (X : DS), i = .int .i64 k ∧ k ≤ n2 ∧ Pair w3.heap.size w3 wr gx gy X) (fun i _ => n2 - (intOf i).toNat)
        case atStart => exact ⟨0, _, rfl, Nat.zero_le _, hq8⟩
        case round =>
          clear hq8
          obtain ⟨k2, X2, rfl, hk2, hq⟩ := hrel
          by_cases hlt : k2 < n2 ∧ k2 < 20
          · obtain ⟨hlt, hlt2⟩ := hlt
            obtain ⟨b, off, rfl, hb, hcell⟩ := H2.out.2.2 (by omega)
            obtain ⟨q0, w0⟩ := hcell k2 hlt 0 (by decide)
            obtain ⟨q1, w1⟩ := hcell k2 hlt 1 (by decide)
            obtain ⟨q2, w2⟩ := hcell k2 hlt 2 (by decide)
            have hbl := h3c.trans (hq.below.mono h3b)
            have x0 : wr.cell? ⟨b, off + k2 * 3, none⟩ = some (.int .u8 (G k2 0)) := (hbl.cell hb).trans q0
            have x1 : wr.cell? ⟨b, off + k2 * 3 + 1, none⟩ = some (.int .u8 (G k2 1)) := (hbl.cell hb).trans q1
            have x2 : wr.cell? ⟨b, off + k2 * 3 + 2, none⟩ = some (.int .u8 (G k2 2)) := (hbl.cell hb).trans q2
            clear q0 q1 q2 hbl
            go_wp2_with fail
            refine (step_pair _ _ _ hq w0 w1 w2).mono ?_
            rintro e w9 ⟨rfl, hq9, _⟩
            obtain ⟨X9, hq9⟩ := hq9.out
            clear hq x0 x1 x2
            go_wp2_with fail
            refine (alike_pair hq9).mono ?_
            rintro e w10 ⟨rfl, hq10, _⟩
            clear hq9
            go_wp2
            go_roundw
            case rel => exact ⟨k2 + 1, X9, by go_num, by omega, hq10⟩
            case measure => simp [intOf]; omega
          · have hy : ¬ k2 < n2 ∨ (k2 < n2 ∧ ¬ k2 < 20) := by omega
            rcases hy with hy1 | ⟨hy1, hy2⟩
            all_goals
              go_wp2_with fail
              refine (crash_pair flip keep hq).mono ?_
              rintro e w11 ⟨gz, rfl, hd11, hq11, hb11⟩
              go_wp2_with fail
              refine (crash_ref flip keep hq11 hd11 hb11).mono ?_
              rintro e w12 ⟨gu, rfl, hz12, hb12⟩
              have hq12 := hq11.keep hb12
              clear hd11 hb11 hq11 hb12 hq
              go_wp2_with fail
              refine (awake_disk _).mono ?_
              rintro e w13 ⟨rfl, hb13⟩
              have hz13 := hz12.keep hb13
              have hq13 := hq12.keep hb13
              clear hz12 hq12 hb13
              go_wp2_with fail
              refine (alike_pair hz13).mono ?_
              rintro e w14 ⟨rfl, _, hb14⟩
              have hq14 := hq13.keep hb14
              clear hz13 hq13 hb14
              go_wp2_with fail
              refine (alike_pair (Pair.under h3a.out h3b h3c hq14)).mono ?_
              rintro e w15 ⟨rfl, hp15, _⟩
              clear hq14
              go_wp2
              go_ret
              exact ⟨rfl, hp15.below⟩
end Go.Proofs.Ytnakolpaabpifaa.diskPlays
