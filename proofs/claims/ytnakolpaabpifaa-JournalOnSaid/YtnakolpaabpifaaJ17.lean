/- Does a journal contain exactly these records: the law's holds. -/
import Derived.Test.YtnakolpaabpifaaJ16
set_option linter.unusedVariables false
set_option linter.unusedSimpArgs false
namespace Go.Proofs.Ytnakolpaabpifaa
open Go.RowKit Go.Proofs.YtnakolpaabpifaaW.PrintWords Go.Proofs.YtnakolpaabpifaaW.PrintLast

set_option maxRecDepth 100000 in
set_option maxHeartbeats 1000000 in
theorem holds_any (w : World) (S : Nat → Prop) (g : Nat) (dv : Value) (all : List (List Int)) (dead : Bool) (A : Option Addr) (n c : Nat) (hj : JAt w S g dv all dead) (hr : Kd.C KB w A n all) (hc : n ≤ c) (hm : ∀ r ∈ all, r.length ≤ 100000) (hn9 : n ≤ 1000000000) :
    Calls Try.prog 31 #[.pointer (some ⟨g, 0, none⟩), .slice A n c] w fun e w' => e = .returned (.bool true) ∧ Below w.heap.size w w' := by
  have hn : all.length = n := hr.1
  have HN := hid (show (all.length : Int) = (n : Int) by omega)
  have HR := hid hr
  have HJ := hid hj
  clear hr hj
  go_enter Try.func31, Try.ntmps31
  go_wp2_with fail
  refine (len_any _ S g dv all dead n HJ.out HN).mono ?_
  rintro e w1 ⟨rfl, rfl⟩
  go_wp2
  go_loopw [5, 6, 7] (fun v5 v6 v7 wr => ∃ k : Nat, v5 = .int .i64 k ∧ k ≤ n ∧ Below w.heap.size w wr) (fun v5 _ _ _ => n - (intOf v5).toNat)
  case atStart => exact ⟨0, rfl, Nat.zero_le _, Below.refl _ _⟩
  case round =>
    obtain ⟨k, rfl, hk, hb⟩ := hrel
    have hjr := HJ.out.move (w1 := wr) fun k _ hl => hb.block k hl
    by_cases hlt : k < n
    · obtain ⟨ad, A0, c0, rfl, q1, q2, q3⟩ := row_at (Kd.C_below HR.out hb) k (by omega)
      have hmk := hm _ (List.getElem_mem (show k < all.length by omega))
      have hget : all[k]? = some (all[k]'(by omega)) := List.getElem?_eq_getElem (by omega)
      generalize all[k]'(by omega) = x at *
      generalize hxm : x.length = m at *
      go_wp2_with fail
      refine (record_any wr S g dv all dead k x m hjr hget hxm (by omega)).mono ?_
      rintro e w3 ⟨A1, c1, rfl, ho3, hb3⟩
      have q4 := pw_cell_below hb3 q1
      have q5 := q3.below hb3
      have hcA : ∀ q, (convert 30 9 (.slice A1 m c1)).run Try.prog (w3.drewN q) = .ok (.string (strOfNums x)) (w3.drewN q) := fun q => string_of_reads Try.underlying30 Try.underlying5 Try.underlying9 (ho3.reads2.2.2.below (pw_below_drewN (Below.refl _ _) q))
      have hcB : ∀ q, (convert 30 9 (.slice A0 m c0)).run Try.prog (w3.drewN q) = .ok (.string (strOfNums x)) (w3.drewN q) := fun q => string_of_reads Try.underlying30 Try.underlying5 Try.underlying9 (q5.below (pw_below_drewN (Below.refl _ _) q))
      have hb4 : Below w.heap.size w w3 := hb.trans (hb3.mono hb.size)
      have hb5 : ∀ q, Below w.heap.size w (w3.drewN q) := fun q => pw_below_drewN hb4 q
      clear q1 q3 q5 ho3 hb3 hjr hget
      go_wp2
      go_quiet (fail)
      go_wp2
      go_roundw
      case rel => exact ⟨k + 1, by go_num, by omega, hb5 _⟩
      case measure => simp [intOf]; omega
    · obtain rfl : k = n := by omega
      go_wp2_with fail
      refine (record_none wr S g dv all dead (k : Int) (k : Int) hjr HN (.inr (Int.le_refl _))).mono ?_
      rintro e w2 ⟨rfl, rfl⟩
      go_wp2_with fail
      refine (record_none wr S g dv all dead (-1) (k : Int) hjr HN (.inl (by decide))).mono ?_
      rintro e w3 ⟨rfl, rfl⟩
      clear hjr
      go_wp2
      go_ret
      exact ⟨rfl, hb⟩
end Go.Proofs.Ytnakolpaabpifaa
