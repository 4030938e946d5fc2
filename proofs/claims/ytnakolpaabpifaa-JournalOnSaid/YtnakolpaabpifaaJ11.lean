/- Is a record too long: slices.ContainsFunc with Append's function. -/
import Derived.Test.YtnakolpaabpifaaJ10
set_option linter.unusedVariables false
set_option linter.unusedSimpArgs false
namespace Go.Proofs.Ytnakolpaabpifaa
open Go.RowKit Go.Proofs.YtnakolpaabpifaaW.PrintWords Go.Proofs.YtnakolpaabpifaaW.PrintLast

set_option maxHeartbeats 400000 in
theorem big_any (w : World) (A : Option Addr) (n c : Nat) (t : Bool) (ht : Hid (t = decide (4096 < n))) (hn : n ≤ 1000000000) : Calls Try.prog 45 #[.slice A n c] w fun e w' => e = .returned (.bool t) ∧ w = w' := by
  go_enter Try.func45, Try.ntmps45
  go_wp2
  go_ret
  exact ⟨by rw [ht.out]; simp <;> omega, rfl⟩

set_option maxHeartbeats 800000 in
theorem index_any (w : World) (A : Option Addr) (n c : Nat) (rs : List (List Int)) (hr : Kd.C KB w A n rs) (hc : n ≤ c) (hn9 : n ≤ 1000000000) (hm : ∀ r ∈ rs, r.length ≤ 1000000000) :
    Calls Try.prog 52 #[.slice A n c, .func (.func 45) #[] #[]] w fun e w' => ∃ i : Int, e = .returned (.int .i64 i) ∧ (0 ≤ i ↔ ∃ r ∈ rs, 4096 < r.length) ∧ Below w.heap.size w w' := by
  have hn : rs.length = n := hr.1
  have HR := hid hr
  clear hr
  go_enter Try.func52, Try.ntmps52
  go_wp2
  go_loopw [5, 8] (fun v5 v8 wr => ∃ j : Nat, v8 = .int .i64 j ∧ j ≤ n ∧ (∀ i (h : i < rs.length), i < j → rs[i].length ≤ 4096) ∧ Below w.heap.size w wr) (fun _ v8 _ => n - (intOf v8).toNat)
  case atStart => exact ⟨0, rfl, Nat.zero_le _, fun i h hi => by omega, Below.refl _ _⟩
  case round =>
    obtain ⟨j, rfl, hj, hs, hb⟩ := hrel
    by_cases hlt : j < n
    · obtain ⟨ad, A0, c0, rfl, q1, q2, q3⟩ := row_at (Kd.C_below HR.out hb) j (by omega)
      have hmj := hm _ (List.getElem_mem (show j < rs.length by omega))
      by_cases hbig : 4096 < (rs[j]'(by omega)).length
      · have hex : Hid (∃ r ∈ rs, 4096 < r.length) := hid ⟨_, List.getElem_mem (show j < rs.length by omega), hbig⟩
        generalize rs[j]'(by omega) = r at *
        clear q3 hs
        go_wp2_with fail
        refine (big_any _ _ _ _ true (hid (by simp; omega)) hmj).mono ?_
        rintro e w' ⟨rfl, rfl⟩
        go_wp2
        go_ret
        exact ⟨j, rfl, ⟨fun _ => hex.out, fun _ => by omega⟩, hb⟩
      · have hs2 : Hid (∀ i (h : i < rs.length), i < j + 1 → rs[i].length ≤ 4096) := hid fun i h hi => by
          by_cases he : i = j
          · subst he; omega
          · exact hs i h (by omega)
        generalize rs[j]'(by omega) = r at *
        clear q3 hs
        go_wp2_with fail
        refine (big_any _ _ _ _ false (hid (by simp; omega)) hmj).mono ?_
        rintro e w' ⟨rfl, rfl⟩
        go_wp2
        go_roundw
        case rel => exact ⟨j + 1, by go_num, by omega, hs2.out, hb⟩
        case measure => simp [intOf]; omega
    · obtain rfl : j = n := by omega
      have hno : Hid (¬ ∃ r ∈ rs, 4096 < r.length) := hid fun ⟨r, hr, hl⟩ => by
        obtain ⟨i, hi, rfl⟩ := List.getElem_of_mem hr
        have := hs i hi (by omega)
        omega
      clear hs
      go_wp2
      go_ret
      exact ⟨-1, rfl, ⟨fun h => absurd h (by decide), fun h => absurd h hno.out⟩, hb⟩
set_option maxHeartbeats 400000 in
theorem contains_is (w : World) (A : Option Addr) (n c : Nat) (rs : List (List Int)) (t : Bool) (hr : Kd.C KB w A n rs) (hc : n ≤ c) (hn9 : n ≤ 1000000000) (hm : ∀ r ∈ rs, r.length ≤ 1000000000) (ht : Hid (t = true ↔ ∃ r ∈ rs, 4096 < r.length)) :
    Calls Try.prog 44 #[.slice A n c, .func (.func 45) #[] #[]] w fun e w' => e = .returned (.bool t) ∧ Below w.heap.size w w' := by
  have HR := hid hr
  clear hr
  go_enter Try.func44, Try.ntmps44
  go_wp2_with fail
  refine (index_any _ _ _ _ rs HR.out hc hn9 hm).mono ?_
  rintro e w' ⟨i, rfl, hi, hb⟩
  have hti : t = decide (0 ≤ i) := by
    have := ht.out
    rw [← hi] at this
    cases t with
    | true => exact (decide_eq_true (this.1 rfl)).symm
    | false => exact (decide_eq_false (fun h => by have := this.2 h; simp at this)).symm
  have HT := hid hti
  clear hti hi
  go_wp2
  go_ret
  exact ⟨by rw [HT.out]; rfl, hb⟩
end Go.Proofs.Ytnakolpaabpifaa
