-- PRINTED BY print.sh 35421559b90ae4d0a3588c463048766b98c2df88dd9212a6774a882060cdf62d: not written by this session
import Derived.Test.YtnakolpaabpifaaPfirstx0
namespace Go.Proofs.Ytnakolpaabpifaa.Pfirst
open Go.RowKit Go.Proofs.YtnakolpaabpifaaW.PrintWords Go.Proofs.YtnakolpaabpifaaW.PrintLast Go.Proofs.YtnakolpaabpifaaW.PrintMore
attribute [local go_sem] max2_int min2_int max_two min_two max_three min_three max_four min_four   -- for this text's walks alone
set_option linter.unusedVariables false
set_option linter.unusedSimpArgs false

-- NOT PRINTED: function 37 (slices_Clone_byte_byte)

/-! ### journal_get: function 48 -/
def journal_get.l0 : Nat → List Int → Int → Int → Option (Int)
  | 0, _, _, _ => none
  | k + 1, x0, x3, x4 => if x4 ≥ 0 then (if 0 ≤ x4 then (if x4 < (x0.length : Int) then (journal_get.l0 k x0 (Go.bits .or .u32 ((x3 * 256) % 4294967296) ((rd x0 x4) % 4294967296)) (wrap64 (x4 - 1))) else (none)) else (none)) else (some x3)
def journal_get.f (k : Nat) (l0 : List Int) : Option (Int) := journal_get.l0 k l0 0 (wrap64 ((l0.length : Int) - 1))
theorem journal_get.mono_l : ∀ k, (∀ y0 y1 y2, LeO (journal_get.l0 k y0 y1 y2) (journal_get.l0 (k + 1) y0 y1 y2))
  | 0 => fun _ _ _ r h => by simp [journal_get.l0] at h
  | k + 1 => by
    have ih0 := journal_get.mono_l k
    · intro y0 y1 y2
      unfold journal_get.l0
      repeat' first
      | (with_reducible exact ih0 _ _ _)
      | (with_reducible exact LeO.refl _)
      | (with_reducible exact LeO.none _)
      | (with_reducible refine LeO.ite ?_ ?_)
      | (with_reducible refine LeO.bind ?_ (fun _ => ?_))
      | exact ih0 _ _ _
      | exact LeO.none _
      | refine LeO.ite ?_ ?_
      | refine LeO.bind ?_ (fun _ => ?_)
theorem journal_get.mono : ∀ a0 k, LeO (journal_get.f k a0) (journal_get.f (k + 1) a0) := by
  intro a0 k
  have ih0 := journal_get.mono_l k
  unfold journal_get.f
  repeat' first
      | (with_reducible exact ih0 _ _ _)
      | (with_reducible exact LeO.refl _)
      | (with_reducible exact LeO.none _)
      | (with_reducible refine LeO.ite ?_ ?_)
      | (with_reducible refine LeO.bind ?_ (fun _ => ?_))
      | exact ih0 _ _ _
      | exact LeO.none _
      | refine LeO.ite ?_ ?_
      | refine LeO.bind ?_ (fun _ => ?_)
set_option maxHeartbeats 8000000 in
set_option maxRecDepth 100000 in
theorem journal_get.calls (k : Nat) (A0 : Option Addr) (c0 : Nat) (l0 : List Int) (r : Int) (w : World) (hr0 : Kd.C (Kd.int .u8) w A0 l0.length l0) (hc0 : l0.length ≤ c0) (h : journal_get.f k l0 = some r) :
    Calls Try.prog 48 #[.slice A0 l0.length c0] w fun e w' => e = .returned (.int .u32 r) ∧ Drawn0 w w' := by
  have HR0 := Aside0.mk hr0
  have HC0 := Aside0.mk hc0
  clear hr0 hc0
  have H : (journal_get.l0 k l0 0 (wrap64 ((l0.length : Int) - 1))) = some r := h
  clear h
  have H' := Aside0.mk H
  clear H
  go_enter Try.func48, Try.ntmps48
  go_wp2
  go_loopg [3, 4] k (fun kq v3 v4 w' => ∃ (x3_1 : Int) (x4_1 : Int), v3 = .int .u32 x3_1 ∧ v4 = .int .i64 x4_1 ∧ Aside0 (journal_get.l0 kq l0 x3_1 x4_1 = some r) ∧ Aside0 (kq ≤ k) ∧ Drawn0 w w')
  case atStart => exact ⟨(0), (wrap64 ((l0.length : Int) - 1)), (by first | rfl | (simp; done) | (simp [*]; done)), (by first | rfl | (simp; done) | (simp [*]; done)), H', ⟨Nat.le_refl _⟩, by repeat (first | exact Drawn0.refl _ | apply Drawn0.step)⟩
  case round =>
    clear H'
    obtain ⟨x3_1, x4_1, rfl, rfl, HA, HK1, ⟨m1, rfl⟩⟩ := hrel
    cases gk with
    | zero => exact absurd HA.out (by simp [journal_get.l0])
    | succ k1 =>
      have H := HA.out
      clear HA
      simp only [journal_get.l0] at H
      by_cases c2 : x4_1 ≥ 0
      · rw [if_pos c2] at H
        have c2b0 : decide (0 ≤ x4_1) = true := decide_eq_true c2
        clear c2
        by_cases c3 : 0 ≤ x4_1
        · rw [if_pos c3] at H
          have c3b0 : decide (0 ≤ x4_1) = true := decide_eq_true c3
          clear c3
          by_cases c4 : x4_1 < (l0.length : Int)
          · rw [if_pos c4] at H
            have c4b0 : decide (x4_1 < (l0.length : Int)) = true := decide_eq_true c4
            clear c4
            have H' := Aside0.mk H
            clear H
            have p101 : 0 ≤ (x4_1 : Int) := of_decide_eq_true (by first | (with_reducible assumption) | assumption)
            have q101 : x4_1 < (l0.length : Int) := of_decide_eq_true (by first | (with_reducible assumption) | assumption)
            obtain ⟨ad101, e101, hx101_0⟩ := Kd.at_int HR0.out x4_1 p101 q101
            cases e101
            replace p101 := eq_true p101
            replace q101 := eq_true q101
            go_wp2
            go_roundg k1
            case measure => have := HK1.out; omega
            case rel => exact ⟨(Go.bits .or .u32 ((x3_1 * 256) % 4294967296) ((rd l0 x4_1) % 4294967296)), (wrap64 (x4_1 - 1)), (by first | rfl | (simp; done) | (simp [*]; done)), (by first | rfl | (simp; done) | (simp [*]; done)), H', ⟨by have := HK1.out; omega⟩, by repeat (first | exact Drawn0.refl _ | apply Drawn0.step)⟩
          · rw [if_neg c4] at H
            exact absurd H (by simp)
        · rw [if_neg c3] at H
          exact absurd H (by simp)
      · rw [if_neg c2] at H
        have c2b0 : decide (0 ≤ x4_1) = false := decide_eq_false c2
        clear c2
        obtain rfl := Option.some.inj H
        go_wp2
        go_ret
        exact ⟨by first | rfl | (simp; done) | (simp [*]; done), by repeat (first | exact Drawn0.refl _ | apply Drawn0.step)⟩

/-! ### journal_lengths: function 49 -/
mutual
def journal_lengths.j0 : Nat → List Int → List Int → Int → Bool → Option (List Int × Int × Bool × Bool)
  | 0, _, _, _, _ => none
  | k + 1, x0, x2, x6, x22 => if x22 = true then (some (([] : List Int), 0, false, false)) else (journal_lengths.l0 k x0 x2 (wrap64 (1 + (wrap64 (2 * x6)))) x6 0)
def journal_lengths.l0 : Nat → List Int → List Int → Int → Int → Int → Option (List Int × Int × Bool × Bool)
  | 0, _, _, _, _, _ => none
  | k + 1, x0, x2, x3, x26, x27 => if x27 < x26 then (if (wrap64 ((wrap64 (1 + (wrap64 (2 * x27)))) + 2)) > (x0.length : Int) then (some (x2, x3, false, true)) else (if 0 ≤ (wrap64 (1 + (wrap64 (2 * x27)))) then (if (wrap64 (1 + (wrap64 (2 * x27)))) ≤ (wrap64 ((wrap64 (1 + (wrap64 (2 * x27)))) + 2)) then (if (wrap64 ((wrap64 (1 + (wrap64 (2 * x27)))) + 2)) ≤ (x0.length : Int) then ((journal_get.f k ((x0.take ((wrap64 ((wrap64 (1 + (wrap64 (2 * x27)))) + 2)) : Int).toNat).drop ((wrap64 (1 + (wrap64 (2 * x27)))) : Int).toNat)).bind fun t104 => (if (wrap64 (t104)) > 4096 then (some (([] : List Int), 0, false, false)) else (if x2.length < 17592186044416 then (journal_lengths.l0 k x0 (x2 ++ [wrap64 (t104)]) (wrap64 (x3 + (wrap64 (t104)))) x26 (wrap64 (x27 + 1))) else (none)))) else (none)) else (none)) else (none))) else (some (x2, x3, true, true))
end
def journal_lengths.f (k : Nat) (l0 : List Int) : Option (List Int × Int × Bool × Bool) := if (l0.length : Int) = 0 then (some (([] : List Int), 0, false, true)) else (if 0 < (l0.length : Int) then (if (wrap64 (rd l0 0)) < 1 then (journal_lengths.j0 k l0 ([] : List Int) (wrap64 (rd l0 0)) true) else (journal_lengths.j0 k l0 ([] : List Int) (wrap64 (rd l0 0)) (decide ((wrap64 (rd l0 0)) > 16)))) else (none))
theorem journal_lengths.mono_l : ∀ k, (∀ y0 y1 y2 y3, LeO (journal_lengths.j0 k y0 y1 y2 y3) (journal_lengths.j0 (k + 1) y0 y1 y2 y3)) ∧ (∀ y0 y1 y2 y3 y4, LeO (journal_lengths.l0 k y0 y1 y2 y3 y4) (journal_lengths.l0 (k + 1) y0 y1 y2 y3 y4))
  | 0 => ⟨fun _ _ _ _ r h => by simp [journal_lengths.j0] at h, fun _ _ _ _ _ r h => by simp [journal_lengths.l0] at h⟩
  | k + 1 => by
    obtain ⟨ih0, ih1⟩ := journal_lengths.mono_l k
    refine ⟨?_, ?_⟩
    · intro y0 y1 y2 y3
      unfold journal_lengths.j0
      repeat' first
      | (with_reducible exact ih0 _ _ _ _)
      | (with_reducible exact ih1 _ _ _ _ _)
      | (with_reducible exact journal_get.mono _ _)
      | (with_reducible exact LeO.refl _)
      | (with_reducible exact LeO.none _)
      | (with_reducible refine LeO.ite ?_ ?_)
      | (with_reducible refine LeO.bind ?_ (fun _ => ?_))
      | exact ih0 _ _ _ _
      | exact ih1 _ _ _ _ _
      | exact journal_get.mono _ _
      | exact LeO.none _
      | refine LeO.ite ?_ ?_
      | refine LeO.bind ?_ (fun _ => ?_)
    · intro y0 y1 y2 y3 y4
      unfold journal_lengths.l0
      repeat' first
      | (with_reducible exact ih0 _ _ _ _)
      | (with_reducible exact ih1 _ _ _ _ _)
      | (with_reducible exact journal_get.mono _ _)
      | (with_reducible exact LeO.refl _)
      | (with_reducible exact LeO.none _)
      | (with_reducible refine LeO.ite ?_ ?_)
      | (with_reducible refine LeO.bind ?_ (fun _ => ?_))
      | exact ih0 _ _ _ _
      | exact ih1 _ _ _ _ _
      | exact journal_get.mono _ _
      | exact LeO.none _
      | refine LeO.ite ?_ ?_
      | refine LeO.bind ?_ (fun _ => ?_)
theorem journal_lengths.mono : ∀ a0 k, LeO (journal_lengths.f k a0) (journal_lengths.f (k + 1) a0) := by
  intro a0 k
  obtain ⟨ih0, ih1⟩ := journal_lengths.mono_l k
  unfold journal_lengths.f
  repeat' first
      | (with_reducible exact ih0 _ _ _ _)
      | (with_reducible exact ih1 _ _ _ _ _)
      | (with_reducible exact journal_get.mono _ _)
      | (with_reducible exact LeO.refl _)
      | (with_reducible exact LeO.none _)
      | (with_reducible refine LeO.ite ?_ ?_)
      | (with_reducible refine LeO.bind ?_ (fun _ => ?_))
      | exact ih0 _ _ _ _
      | exact ih1 _ _ _ _ _
      | exact journal_get.mono _ _
      | exact LeO.none _
      | refine LeO.ite ?_ ?_
      | refine LeO.bind ?_ (fun _ => ?_)
set_option maxHeartbeats 8000000 in
set_option maxRecDepth 100000 in
theorem journal_lengths.calls (k : Nat) (A0 : Option Addr) (c0 : Nat) (l0 : List Int) (r1 : List Int) (r2 : Int) (r3 : Bool) (r4 : Bool) (w : World) (hr0 : Kd.C (Kd.int .u8) w A0 l0.length l0) (hc0 : l0.length ≤ c0) (h : journal_lengths.f k l0 = some (r1, r2, r3, r4)) :
    Calls Try.prog 49 #[.slice A0 l0.length c0] w fun e w' => ∃ v0_ : Value, e = .returned (.tuple #[v0_, .int .i64 r2, .bool r3, .bool r4]) ∧ Kd.R (Kd.int .i64) 3 w' w.heap.size (fun _ => True) v0_ r1 ∧ Below w.heap.size w w' := by
  have HR0 := Aside0.mk hr0
  have HC0 := Aside0.mk hc0
  clear hr0 hc0
  have HB := Aside0.mk (Below.refl w.heap.size w)
  have H : (if (l0.length : Int) = 0 then (some (([] : List Int), 0, false, true)) else (if 0 < (l0.length : Int) then (if (wrap64 (rd l0 0)) < 1 then (journal_lengths.j0 k l0 ([] : List Int) (wrap64 (rd l0 0)) true) else (journal_lengths.j0 k l0 ([] : List Int) (wrap64 (rd l0 0)) (decide ((wrap64 (rd l0 0)) > 16)))) else (none))) = some (r1, r2, r3, r4) := h
  clear h
  by_cases c2 : (l0.length : Int) = 0
  · rw [if_pos c2] at H
    have c2b0 : ((l0.length : Int) == 0) = true := beq_iff_eq.mpr c2
    have c2b1 : ((l0.length : Int) != 0) = false := bne_eq_false_iff_eq.mpr c2
    clear c2
    simp only [Option.some.injEq, Prod.mk.injEq] at H
    obtain ⟨rfl, rfl, rfl, rfl⟩ := H
    go_enter Try.func49, Try.ntmps49
    go_wp2
    refine bodyPost_ret (results_list (rs := [.tmp 2, .tmp 3, .tmp 4, .tmp 5]) rfl (by simp) (.tmp (.tmp (.tmp (.tmp .nil))))) rfl ?_
    exact ⟨_, by first | rfl | (simp [errW_none, errW_some] <;> rfl) | (simp [*, errW_none, errW_some] <;> rfl), by first | exact Kd.R_nil _ _ _ _ _ | exact Kd.N_nil _ _ _ _ _ | exact Kd.V_nil _ _ _ _ _ | exact Kd.Q_nil _ _ _ _ _ | exact Kd.S_nil _ _ _ _ _, by repeat (first | (with_reducible first | exact HB.out | apply below_alloc | apply pw_below_drewN | apply below_drew1) | exact HB.out)⟩
  · rw [if_neg c2] at H
    have c2b0 : ((l0.length : Int) == 0) = false := beq_eq_false_iff_ne.mpr c2
    have c2b1 : ((l0.length : Int) != 0) = true := bne_iff_ne.mpr c2
    have c2b2 : ¬ (l0 = []) := fun h_ => c2 (by rw [h_]; rfl)
    by_cases c3 : 0 < (l0.length : Int)
    · rw [if_pos c3] at H
      have c3b0 : decide (0 < (l0.length : Int)) = true := decide_eq_true c3
      have c3b1 : decide (0 < l0.length) = true := decide_eq_true (by omega)
      clear c3
      have HC4 := Aside0.mk H
      clear H
      have p102 : 0 ≤ (0 : Int) := (by omega)
      have q102 : 0 < (l0.length : Int) := of_decide_eq_true (by first | (with_reducible assumption) | assumption)
      obtain ⟨ad102, e102, hx102_0⟩ := Kd.at_int HR0.out 0 p102 q102
      cases e102
      have qi102 : (0 < l0.length) = True := eq_true (by omega)
      (try rw [show ((0 : Int)).toNat = 0 from rfl] at hx102_0)
      (try rw [Addr.add_zero'] at hx102_0)
      replace p102 := eq_true p102
      replace q102 := eq_true q102
      go_enter Try.func49, Try.ntmps49
      go_upto_region 4 with (fail)
      go_cut [22] (fun v22 wc => ∃ (kq : Nat) (x22_3 : Bool), v22 = .bool x22_3 ∧ Aside0 (journal_lengths.j0 kq l0 ([] : List Int) (wrap64 (rd l0 0)) x22_3 = some (r1, r2, r3, r4)) ∧ Aside0 (kq ≤ k) ∧ Aside0 (Kd.R (Kd.int .i64) 3 wc w.heap.size (fun _ => True) (.slice none 0 0) ([] : List Int)) ∧ Aside0 (Below w.heap.size w wc))
      case first =>
        have H := HC4.out
        clear HC4
        by_cases c5 : (wrap64 (rd l0 0)) < 1
        · rw [if_pos c5] at H
          have c5b0 : decide ((wrap64 (rd l0 0)) < 1) = true := decide_eq_true c5
          clear c5
          (first | rw [c5b0] | (simp only [i64_w, i32_w]; rw [c5b0]) | skip)
          have H' := Aside0.mk H
          clear H
          go_wp2
          go_meet
          case rel => exact ⟨_, (true), (by first | rfl | (simp; done) | (simp [*]; done)), H', ⟨by first | omega | exact Nat.le_refl _⟩, ⟨by first | exact Kd.R_nil _ _ _ _ _ | exact Kd.N_nil _ _ _ _ _ | exact Kd.V_nil _ _ _ _ _ | exact Kd.Q_nil _ _ _ _ _ | exact Kd.S_nil _ _ _ _ _⟩, ⟨by repeat (first | (with_reducible first | exact HB.out | apply below_alloc | apply pw_below_drewN | apply below_drew1) | exact HB.out)⟩⟩
        · rw [if_neg c5] at H
          have c5b0 : decide ((wrap64 (rd l0 0)) < 1) = false := decide_eq_false c5
          clear c5
          (first | rw [c5b0] | (simp only [i64_w, i32_w]; rw [c5b0]) | skip)
          have H' := Aside0.mk H
          clear H
          go_wp2
          go_meet
          case rel => exact ⟨_, (decide ((wrap64 (rd l0 0)) > 16)), (by first | rfl | (simp; done) | (simp [*]; done)), H', ⟨by first | omega | exact Nat.le_refl _⟩, ⟨by first | exact Kd.R_nil _ _ _ _ _ | exact Kd.N_nil _ _ _ _ _ | exact Kd.V_nil _ _ _ _ _ | exact Kd.Q_nil _ _ _ _ _ | exact Kd.S_nil _ _ _ _ _⟩, ⟨by repeat (first | (with_reducible first | exact HB.out | apply below_alloc | apply pw_below_drewN | apply below_drew1) | exact HB.out)⟩⟩
      case rest =>
        clear HC4
        try clear p1
        try clear q1
        try clear hx1
        try clear qi1
        try clear c2
        try clear c2b0
        try clear c2b1
        try clear c2b2
        try clear p2
        try clear c3
        try clear c3b0
        try clear c3b1
        try clear c4
        try clear c5
        try clear c5b0
        try clear hx102_0
        try clear p102
        try clear q102
        obtain ⟨kq, x22_3, rfl, HA, HJ3, HO_2, HB⟩ := hcut
        cases kq with
        | zero => exact absurd HA.out (by simp [journal_lengths.j0])
        | succ kj3 =>
          have H := HA.out
          clear HA
          simp only [journal_lengths.j0] at H
          by_cases c6 : x22_3 = true
          · subst c6
            have H1 : (some (([] : List Int), 0, false, false)) = some (r1, r2, r3, r4) := by rw [if_pos rfl] at H; exact H
            clear H
            have H := H1
            clear H1
            simp only [Option.some.injEq, Prod.mk.injEq] at H
            obtain ⟨rfl, rfl, rfl, rfl⟩ := H
            go_wp2
            refine bodyPost_ret (results_list (rs := [.tmp 2, .tmp 3, .tmp 4, .tmp 5]) rfl (by simp) (.tmp (.tmp (.tmp (.tmp .nil))))) rfl ?_
            exact ⟨_, by first | rfl | (simp [errW_none, errW_some] <;> rfl) | (simp [*, errW_none, errW_some] <;> rfl), by first | exact Kd.R_nil _ _ _ _ _ | exact Kd.N_nil _ _ _ _ _ | exact Kd.V_nil _ _ _ _ _ | exact Kd.Q_nil _ _ _ _ _ | exact Kd.S_nil _ _ _ _ _, by repeat (first | (with_reducible first | exact HB.out | apply below_alloc | apply pw_below_drewN | apply below_drew1) | exact HB.out)⟩
          · replace c6 := Bool.eq_false_iff.mpr c6
            subst c6
            have H1 : (journal_lengths.l0 kj3 l0 ([] : List Int) (wrap64 (1 + (wrap64 (2 * (wrap64 (rd l0 0)))))) (wrap64 (rd l0 0)) 0) = some (r1, r2, r3, r4) := by rw [if_neg (show ¬ (false = true) by decide)] at H; exact H
            clear H
            have H := H1
            clear H1
            have H' := Aside0.mk H
            clear H
            go_wp2
            go_loopg [2, 3, 27] kj3 (fun kq v2 v3 v27 w' => ∃ (x2_2 : List Int) (x3_2 : Int) (x27_2 : Int), v3 = .int .i64 x3_2 ∧ v27 = .int .i64 x27_2 ∧ Aside0 (journal_lengths.l0 kq l0 x2_2 x3_2 (wrap64 (rd l0 0)) x27_2 = some (r1, r2, r3, r4)) ∧ Aside0 (kq ≤ kj3) ∧ Aside0 (Kd.R (Kd.int .i64) 3 w' w.heap.size (fun _ => True) v2 x2_2) ∧ Aside0 (Below w.heap.size w w'))
            case atStart => exact ⟨(([] : List Int)), (wrap64 (1 + (wrap64 (2 * (wrap64 (rd l0 0)))))), (0), (by first | rfl | (simp; done) | (simp [*]; done)), (by first | rfl | (simp; done) | (simp [*]; done)), H', ⟨Nat.le_refl _⟩, ⟨by (with_reducible repeat (first | apply Kd.R_alloc | apply Kd.R_drewN | apply Kd.R_drew)); exact HO_2.out⟩, ⟨by repeat (first | (with_reducible first | exact HB.out | apply below_alloc | apply pw_below_drewN | apply below_drew1) | exact HB.out)⟩⟩
            case round =>
              clear H'
              try clear p1
              try clear q1
              try clear hx1
              try clear qi1
              try clear c2
              try clear c2b0
              try clear c2b1
              try clear c2b2
              try clear p2
              try clear c3
              try clear c3b0
              try clear c3b1
              try clear c4
              try clear c5
              try clear c5b0
              try clear c6
              try clear p6
              try clear hx102_0
              try clear p1
              try clear p102
              try clear p2
              try clear q1
              try clear q102
              obtain ⟨x2_2, x3_2, x27_2, rfl, rfl, HA, HK2, HO_2, HB⟩ := hrel
              cases gk with
              | zero => exact absurd HA.out (by simp [journal_lengths.l0])
              | succ k2 =>
                have H := HA.out
                clear HA
                simp only [journal_lengths.l0] at H
                by_cases c7 : x27_2 < (wrap64 (rd l0 0))
                · rw [if_pos c7] at H
                  have c7b0 : decide (x27_2 < (wrap64 (rd l0 0))) = true := decide_eq_true c7
                  clear c7
                  by_cases c8 : (wrap64 ((wrap64 (1 + (wrap64 (2 * x27_2)))) + 2)) > (l0.length : Int)
                  · rw [if_pos c8] at H
                    have c8b0 : decide ((l0.length : Int) < (wrap64 ((wrap64 (1 + (wrap64 (2 * x27_2)))) + 2))) = true := decide_eq_true c8
                    clear c8
                    simp only [Option.some.injEq, Prod.mk.injEq] at H
                    obtain ⟨rfl, rfl, rfl, rfl⟩ := H
                    go_wp2
                    refine bodyPost_ret (results_list (rs := [.tmp 2, .tmp 3, .tmp 4, .tmp 5]) rfl (by simp) (.tmp (.tmp (.tmp (.tmp .nil))))) rfl ?_
                    exact ⟨_, by first | rfl | (simp [errW_none, errW_some] <;> rfl) | (simp [*, errW_none, errW_some] <;> rfl), by (with_reducible repeat (first | apply Kd.R_alloc | apply Kd.R_drewN | apply Kd.R_drew)); exact HO_2.out, by repeat (first | (with_reducible first | exact HB.out | apply below_alloc | apply pw_below_drewN | apply below_drew1) | exact HB.out)⟩
                  · rw [if_neg c8] at H
                    have c8b0 : decide ((l0.length : Int) < (wrap64 ((wrap64 (1 + (wrap64 (2 * x27_2)))) + 2))) = false := decide_eq_false c8
                    clear c8
                    obtain ⟨ji9, hji9⟩ : ∃ j_ : Int, (wrap64 (1 + (wrap64 (2 * x27_2)))) = j_ := ⟨_, rfl⟩
                    replace H : (if 0 ≤ (ji9) then (if (ji9) ≤ (wrap64 ((ji9) + 2)) then (if (wrap64 ((ji9) + 2)) ≤ (l0.length : Int) then ((journal_get.f k2 ((l0.take ((wrap64 ((ji9) + 2)) : Int).toNat).drop ((ji9) : Int).toNat)).bind fun t104 => (if (wrap64 (t104)) > 4096 then (some (([] : List Int), 0, false, false)) else (if x2_2.length < 17592186044416 then (journal_lengths.l0 k2 l0 (x2_2 ++ [wrap64 (t104)]) (wrap64 (x3_2 + (wrap64 (t104)))) (wrap64 (rd l0 0)) (wrap64 (x27_2 + 1))) else (none)))) else (none)) else (none)) else (none)) = some (r1, r2, r3, r4) := by first | (rw [hji9] at H; exact H) | (simp only [hji9] at H ⊢; exact H)
                    (try rw [hji9] at c8b0)
                    have hji9w : (IntKind.i64.wrap (1 + (wrap64 (2 * x27_2)))) = ji9 := (i64_w _).trans hji9
                    by_cases c10 : 0 ≤ (ji9)
                    · rw [if_pos c10] at H
                      have c10b0 := eq_true c10
                      have c10b1 : decide (0 ≤ (ji9)) = true := decide_eq_true c10
                      clear c10
                      by_cases c11 : (ji9) ≤ (wrap64 ((ji9) + 2))
                      · rw [if_pos c11] at H
                        have c11b0 := eq_true c11
                        have c11b1 : decide ((ji9) ≤ (wrap64 ((ji9) + 2))) = true := decide_eq_true c11
                        by_cases c12 : (wrap64 ((ji9) + 2)) ≤ (l0.length : Int)
                        · rw [if_pos c12] at H
                          have c12b0 := eq_true c12
                          have c12b1 : decide ((wrap64 ((ji9) + 2)) ≤ (l0.length : Int)) = true := decide_eq_true c12
                          replace H := Option.bind_eq_some_iff.mp H
                          obtain ⟨t104, A130, H⟩ := H
                          replace H : (if (wrap64 (t104)) > 4096 then (some (([] : List Int), 0, false, false)) else (if x2_2.length < 17592186044416 then (journal_lengths.l0 k2 l0 (x2_2 ++ [wrap64 (t104)]) (wrap64 (x3_2 + (wrap64 (t104)))) (wrap64 (rd l0 0)) (wrap64 (x27_2 + 1))) else (none))) = some (r1, r2, r3, r4) := H
                          have A13 := Aside0.mk A130
                          clear A130
                          by_cases c14 : (wrap64 (t104)) > 4096
                          · rw [if_pos c14] at H
                            have c14b0 : decide (4096 < (wrap64 (t104))) = true := decide_eq_true c14
                            clear c14
                            simp only [Option.some.injEq, Prod.mk.injEq] at H
                            obtain ⟨rfl, rfl, rfl, rfl⟩ := H
                            obtain ⟨i015, hi015, _, hsz15, _⟩ := info_parts info5
                            obtain ⟨A15, hcut15, hA15, hC15⟩ := print_mid_of (P := Try.prog) (Value.int .u8) 0 30 5 .i64 .i64 Try.underlying30 hi015 hsz15 (some ad102) c0 l0 (ji9) (wrap64 ((ji9) + 2)) (of_decide_eq_true (by first | (with_reducible assumption) | assumption)) (by first | omega | exact of_decide_eq_true (by first | (with_reducible assumption) | assumption)) (of_decide_eq_true (by first | (with_reducible assumption) | assumption)) HC0.out
                            have HR103 := Aside0.mk (Kd.C_of_reads (h1 := fun _ => rfl) (hA15 _ (Kd.reads_of_C HR0.out)))
                            have HC103 := Aside0.mk hC15
                            clear hA15 hC15 hi015 hsz15
                            go_wp2_with (first | ((with_reducible refine gate_callee (f := 48) rfl ?_); refine goesL_ (some 45) rfl rfl Try.func48 (by kernel_rfl) rfl #[.slice A15 ((l0.take ((wrap64 ((ji9) + 2)) : Int).toNat).drop ((ji9) : Int).toNat).length (c0 - (ji9).toNat)] rfl (by (try simp only [List.map_toArray, List.map_cons, List.map_nil]); first | done | (rw [show ((l0.take ((wrap64 ((ji9) + 2)) : Int).toNat).drop ((ji9) : Int).toNat).length = ((wrap64 ((ji9) + 2)).toNat - (ji9).toNat) from (by rw [List.length_drop, List.length_take]; have h_ : ((wrap64 ((ji9) + 2)) : Int) ≤ (l0.length : Int) := of_decide_eq_true (by first | (with_reducible assumption) | assumption); omega)] <;> rfl) | (simp only [hji9]; rfl) | rfl | (simp only [List.length_drop, List.length_take]; rfl)) ?_; (with_reducible refine (journal_get.calls k2 _ _ ((l0.take ((wrap64 ((ji9) + 2)) : Int).toNat).drop ((ji9) : Int).toNat) t104 _ ?side1 ?side2 A13.out).mono ?_); (case side1 => repeat (first | exact (Kd.C_below HR103.out HB.out) | (with_reducible refine Kd.C_alloc ?_ _) | (with_reducible refine Kd.C_drewN ?_ _) | (with_reducible refine Kd.C_drew ?_))); (case side2 => exact HC103.out); rintro e w' ⟨rfl, ⟨nd, rfl⟩⟩; refine ⟨_, rfl, ?_⟩))
                            refine bodyPost_ret (results_list (rs := [.tmp 2, .tmp 3, .tmp 4, .tmp 5]) rfl (by simp) (.tmp (.tmp (.tmp (.tmp .nil))))) rfl ?_
                            exact ⟨_, by first | rfl | (simp [errW_none, errW_some] <;> rfl) | (simp only [← hji9]; first | rfl | (simp [errW_none, errW_some] <;> rfl)) | (simp [*, errW_none, errW_some] <;> rfl), by first | exact Kd.R_nil _ _ _ _ _ | exact Kd.N_nil _ _ _ _ _ | exact Kd.V_nil _ _ _ _ _ | exact Kd.Q_nil _ _ _ _ _ | exact Kd.S_nil _ _ _ _ _, by repeat (first | (with_reducible first | exact HB.out | apply below_alloc | apply pw_below_drewN | apply below_drew1) | exact HB.out)⟩
                          · rw [if_neg c14] at H
                            have c14b0 : decide (4096 < (wrap64 (t104))) = false := decide_eq_false c14
                            clear c14
                            by_cases c16 : x2_2.length < 17592186044416
                            · rw [if_pos c16] at H
                              have LMc16 := Aside0.mk c16
                              clear c16
                              obtain ⟨y105, hy105⟩ : ∃ y_ : List Int, y_ = (x2_2 ++ [wrap64 (t104)]) := ⟨_, rfl⟩
                              replace H : (journal_lengths.l0 k2 l0 y105 (wrap64 (x3_2 + (wrap64 (t104)))) (wrap64 (rd l0 0)) (wrap64 (x27_2 + 1))) = some (r1, r2, r3, r4) := by first | (rw [hy105]; with_reducible exact H) | (have H2_ := (Option.bind_some _ _).symm.trans H; rw [hy105]; with_reducible exact H2_) | (have H2_ := (Option.bind_some _ _).symm.trans H; with_reducible exact H2_) | with_reducible exact H | (rw [hy105]; exact H) | exact H
                              have Ny105 := Aside0.mk hy105
                              clear hy105
                              have H' := Aside0.mk H
                              clear H
                              obtain ⟨i017, hi017, _, hsz17, _⟩ := info_parts info5
                              obtain ⟨A17, hcut17, hA17, hC17⟩ := print_mid_of (P := Try.prog) (Value.int .u8) 0 30 5 .i64 .i64 Try.underlying30 hi017 hsz17 (some ad102) c0 l0 (ji9) (wrap64 ((ji9) + 2)) (of_decide_eq_true (by first | (with_reducible assumption) | assumption)) (by first | omega | exact of_decide_eq_true (by first | (with_reducible assumption) | assumption)) (of_decide_eq_true (by first | (with_reducible assumption) | assumption)) HC0.out
                              have HR103 := Aside0.mk (Kd.C_of_reads (h1 := fun _ => rfl) (hA17 _ (Kd.reads_of_C HR0.out)))
                              have HC103 := Aside0.mk hC17
                              clear hA17 hC17 hi017 hsz17
                              go_wp2_with (first | ((with_reducible refine gate_callee (f := 48) rfl ?_); refine goesL_ (some 45) rfl rfl Try.func48 (by kernel_rfl) rfl #[.slice A17 ((l0.take ((wrap64 ((ji9) + 2)) : Int).toNat).drop ((ji9) : Int).toNat).length (c0 - (ji9).toNat)] rfl (by (try simp only [List.map_toArray, List.map_cons, List.map_nil]); first | done | (rw [show ((l0.take ((wrap64 ((ji9) + 2)) : Int).toNat).drop ((ji9) : Int).toNat).length = ((wrap64 ((ji9) + 2)).toNat - (ji9).toNat) from (by rw [List.length_drop, List.length_take]; have h_ : ((wrap64 ((ji9) + 2)) : Int) ≤ (l0.length : Int) := of_decide_eq_true (by first | (with_reducible assumption) | assumption); omega)] <;> rfl) | (simp only [hji9]; rfl) | rfl | (simp only [List.length_drop, List.length_take]; rfl)) ?_; (with_reducible refine (journal_get.calls k2 _ _ ((l0.take ((wrap64 ((ji9) + 2)) : Int).toNat).drop ((ji9) : Int).toNat) t104 _ ?side1 ?side2 A13.out).mono ?_); (case side1 => repeat (first | exact (Kd.C_below HR103.out HB.out) | (with_reducible refine Kd.C_alloc ?_ _) | (with_reducible refine Kd.C_drewN ?_ _) | (with_reducible refine Kd.C_drew ?_))); (case side2 => exact HC103.out); rintro e w' ⟨rfl, ⟨nd, rfl⟩⟩; refine ⟨_, rfl, ?_⟩) | ((with_reducible refine gate_builtin (b := .append) (xs := #[.tmp 49, .tmp 51]) rfl ?_); at_builtin; refine Kd.R_append (Kd.int .i64) (w0 := w) w.heap.size rfl (.tmp 49) (.tmp 51) 85 3 (.int .i64 0) 8 rfl Try.underlying85 info3 rfl (by decide) (by omega) u2 x2_2 (wrap64 (t104)) [.int .i64 (wrap64 (t104))] (fun _ => True) (fun _ => False) rfl rfl ?aP (fun _ hk => hk.elim) ?aF ?aO ?aB ?aS ?aL ?_; (case aP => exact rfl); (case aB => exact (by repeat (first | (with_reducible first | exact HB.out | apply below_alloc | apply pw_below_drewN | apply below_drew1) | exact HB.out))); (case aF => exact (fun _ _ => trivial)); (case aO => exact (by (with_reducible repeat (first | apply Kd.R_alloc | apply Kd.R_drewN | apply Kd.R_drew)); exact HO_2.out)); (case aS => exact (below_size (by repeat (first | (with_reducible first | exact HB.out | apply below_alloc | apply pw_below_drewN | apply below_drew1) | exact HB.out)))); (case aL => have := LMc16.out; omega); intro v106 w18 ho hb hg hat; rw [← Ny105.out] at ho; have n0_ := Aside0.mk (hb); have n1_ := Aside0.mk (ho); clear HB; clear HO_2; have HB := n0_; have HO107 := n1_; clear n0_ n1_; clear ho hb hg hat))
                              go_roundg k2
                              case measure => have := HJ3.out; have := HK2.out; omega
                              case rel => exact ⟨(y105), (wrap64 (x3_2 + (wrap64 (t104)))), (wrap64 (x27_2 + 1)), (by first | rfl | (simp; done) | (simp [*]; done)), (by first | rfl | (simp; done) | (simp [*]; done)), H', ⟨by have := HJ3.out; have := HK2.out; omega⟩, ⟨by (with_reducible repeat (first | apply Kd.R_alloc | apply Kd.R_drewN | apply Kd.R_drew)); exact HO107.out⟩, ⟨by repeat (first | (with_reducible first | exact HB.out | apply below_alloc | apply pw_below_drewN | apply below_drew1) | exact HB.out)⟩⟩
                            · rw [if_neg c16] at H
                              exact absurd H (by simp)
                        · rw [if_neg c12] at H
                          exact absurd H (by simp)
                      · rw [if_neg c11] at H
                        exact absurd H (by simp)
                    · rw [if_neg c10] at H
                      exact absurd H (by simp)
                · rw [if_neg c7] at H
                  have c7b0 : decide (x27_2 < (wrap64 (rd l0 0))) = false := decide_eq_false c7
                  clear c7
                  simp only [Option.some.injEq, Prod.mk.injEq] at H
                  obtain ⟨rfl, rfl, rfl, rfl⟩ := H
                  go_wp2
                  refine bodyPost_ret (results_list (rs := [.tmp 2, .tmp 3, .tmp 4, .tmp 5]) rfl (by simp) (.tmp (.tmp (.tmp (.tmp .nil))))) rfl ?_
                  exact ⟨_, by first | rfl | (simp [errW_none, errW_some] <;> rfl) | (simp [*, errW_none, errW_some] <;> rfl), by (with_reducible repeat (first | apply Kd.R_alloc | apply Kd.R_drewN | apply Kd.R_drew)); exact HO_2.out, by repeat (first | (with_reducible first | exact HB.out | apply below_alloc | apply pw_below_drewN | apply below_drew1) | exact HB.out)⟩
    · rw [if_neg c3] at H
      exact absurd H (by simp)

-- NOT PRINTED: function 57 (slices_Grow_byte_byte)

-- NOT PRINTED: function 54 (slices_Concat_byte_byte)

/-! ### codec_Sum: function 55 -/
def codec_Sum.l0 : Nat → Int → Int → List Int → Int → Int → Option (Int)
  | 0, _, _, _, _, _ => none
  | k + 1, x3, x4, x7, x8, x9 => if x9 < x8 then (if 0 ≤ x9 then (if x9 < (x7.length : Int) then (codec_Sum.l0 k (((x3 + ((rd x7 x9) % 4294967296)) % 4294967296) % 65521) (((x4 + (((x3 + ((rd x7 x9) % 4294967296)) % 4294967296) % 65521)) % 4294967296) % 65521) x7 x8 (wrap64 (x9 + 1))) else (none)) else (none)) else (some (Go.bits .or .u32 ((x4 * 65536) % 4294967296) x3))
def codec_Sum.f (k : Nat) (l0 : List Int) : Option (Int) := codec_Sum.l0 k 1 0 l0 (l0.length : Int) 0
theorem codec_Sum.mono_l : ∀ k, (∀ y0 y1 y2 y3 y4, LeO (codec_Sum.l0 k y0 y1 y2 y3 y4) (codec_Sum.l0 (k + 1) y0 y1 y2 y3 y4))
  | 0 => fun _ _ _ _ _ r h => by simp [codec_Sum.l0] at h
  | k + 1 => by
    have ih0 := codec_Sum.mono_l k
    · intro y0 y1 y2 y3 y4
      unfold codec_Sum.l0
      repeat' first
      | (with_reducible exact ih0 _ _ _ _ _)
      | (with_reducible exact LeO.refl _)
      | (with_reducible exact LeO.none _)
      | (with_reducible refine LeO.ite ?_ ?_)
      | (with_reducible refine LeO.bind ?_ (fun _ => ?_))
      | exact ih0 _ _ _ _ _
      | exact LeO.none _
      | refine LeO.ite ?_ ?_
      | refine LeO.bind ?_ (fun _ => ?_)
theorem codec_Sum.mono : ∀ a0 k, LeO (codec_Sum.f k a0) (codec_Sum.f (k + 1) a0) := by
  intro a0 k
  have ih0 := codec_Sum.mono_l k
  unfold codec_Sum.f
  repeat' first
      | (with_reducible exact ih0 _ _ _ _ _)
      | (with_reducible exact LeO.refl _)
      | (with_reducible exact LeO.none _)
      | (with_reducible refine LeO.ite ?_ ?_)
      | (with_reducible refine LeO.bind ?_ (fun _ => ?_))
      | exact ih0 _ _ _ _ _
      | exact LeO.none _
      | refine LeO.ite ?_ ?_
      | refine LeO.bind ?_ (fun _ => ?_)
set_option maxHeartbeats 8000000 in
set_option maxRecDepth 100000 in
theorem codec_Sum.calls (k : Nat) (A0 : Option Addr) (c0 : Nat) (l0 : List Int) (r : Int) (w : World) (hr0 : Kd.C (Kd.int .u8) w A0 l0.length l0) (hc0 : l0.length ≤ c0) (h : codec_Sum.f k l0 = some r) :
    Calls Try.prog 55 #[.slice A0 l0.length c0] w fun e w' => e = .returned (.int .u32 r) ∧ Drawn0 w w' := by
  have HR0 := Aside0.mk hr0
  have HC0 := Aside0.mk hc0
  clear hr0 hc0
  have H : (codec_Sum.l0 k 1 0 l0 (l0.length : Int) 0) = some r := h
  clear h
  have H' := Aside0.mk H
  clear H
  go_enter Try.func55, Try.ntmps55
  go_wp2
  go_loopg [3, 4, 9] k (fun kq v3 v4 v9 w' => ∃ (x3_1 : Int) (x4_1 : Int) (x9_1 : Int), v3 = .int .u32 x3_1 ∧ v4 = .int .u32 x4_1 ∧ v9 = .int .i64 x9_1 ∧ Aside0 (codec_Sum.l0 kq x3_1 x4_1 l0 (l0.length : Int) x9_1 = some r) ∧ Aside0 (kq ≤ k) ∧ Drawn0 w w')
  case atStart => exact ⟨(1), (0), (0), (by first | rfl | (simp; done) | (simp [*]; done)), (by first | rfl | (simp; done) | (simp [*]; done)), (by first | rfl | (simp; done) | (simp [*]; done)), H', ⟨Nat.le_refl _⟩, by repeat (first | exact Drawn0.refl _ | apply Drawn0.step)⟩
  case round =>
    clear H'
    obtain ⟨x3_1, x4_1, x9_1, rfl, rfl, rfl, HA, HK1, ⟨m1, rfl⟩⟩ := hrel
    cases gk with
    | zero => exact absurd HA.out (by simp [codec_Sum.l0])
    | succ k1 =>
      have H := HA.out
      clear HA
      simp only [codec_Sum.l0] at H
      by_cases c2 : x9_1 < (l0.length : Int)
      · rw [if_pos c2] at H
        have c2b0 : decide (x9_1 < (l0.length : Int)) = true := decide_eq_true c2
        clear c2
        by_cases c3 : 0 ≤ x9_1
        · rw [if_pos c3] at H
          have c3b0 : decide (0 ≤ x9_1) = true := decide_eq_true c3
          clear c3
          by_cases c4 : x9_1 < (l0.length : Int)
          · rw [if_pos c4] at H
            have c4b0 : decide (x9_1 < (l0.length : Int)) = true := decide_eq_true c4
            clear c4
            have H' := Aside0.mk H
            clear H
            have p109 : 0 ≤ (x9_1 : Int) := of_decide_eq_true (by first | (with_reducible assumption) | assumption)
            have q109 : x9_1 < (l0.length : Int) := of_decide_eq_true (by first | (with_reducible assumption) | assumption)
            obtain ⟨ad109, e109, hx109_0⟩ := Kd.at_int HR0.out x9_1 p109 q109
            cases e109
            replace p109 := eq_true p109
            replace q109 := eq_true q109
            go_wp2
            go_roundg k1
            case measure => have := HK1.out; omega
            case rel => exact ⟨(((x3_1 + ((rd l0 x9_1) % 4294967296)) % 4294967296) % 65521), (((x4_1 + (((x3_1 + ((rd l0 x9_1) % 4294967296)) % 4294967296) % 65521)) % 4294967296) % 65521), (wrap64 (x9_1 + 1)), (by first | rfl | (simp; done) | (simp [*]; done)), (by first | rfl | (simp; done) | (simp [*]; done)), (by first | rfl | (simp; done) | (simp [*]; done)), H', ⟨by have := HK1.out; omega⟩, by repeat (first | exact Drawn0.refl _ | apply Drawn0.step)⟩
          · rw [if_neg c4] at H
            exact absurd H (by simp)
        · rw [if_neg c3] at H
          exact absurd H (by simp)
      · rw [if_neg c2] at H
        have c2b0 : decide (x9_1 < (l0.length : Int)) = false := decide_eq_false c2
        clear c2
        obtain rfl := Option.some.inj H
        go_wp2
        go_ret
        exact ⟨by first | rfl | (simp; done) | (simp [*]; done), by repeat (first | exact Drawn0.refl _ | apply Drawn0.step)⟩

-- NOT PRINTED: function 50 (journal_sum)

-- NOT PRINTED: function 42 (journal_first)

end Go.Proofs.Ytnakolpaabpifaa.Pfirst
