/- torn; the frame of records. -/
import Derived.Test.YtnakolpaabpifaaJ7
set_option linter.unusedVariables false
set_option linter.unusedSimpArgs false
namespace Go.Proofs.Ytnakolpaabpifaa
open Go.RowKit Go.Proofs.YtnakolpaabpifaaW.PrintWords Go.Proofs.YtnakolpaabpifaaW.PrintLast

set_option maxRecDepth 100000 in
set_option maxHeartbeats 1000000 in
theorem torn_is (w : World) (A : Option Addr) (n c : Nat) (bs : List Int) (t : Bool) (hr : ReadsInt w .u8 A n bs) (hc : n ≤ c) (hb : IsBytes bs) (hn9 : n ≤ 1000000000) (hp : 0 < n) (ht : Hid (t = tornP bs)) :
    Calls Try.prog 43 #[.slice A n c] w fun e w' => e = .returned (.bool t) ∧ Below w.heap.size w w' := by
  have hn : bs.length = n := hr.1
  cases hbg : beginsP bs with
  | true =>
    have hT : Hid (t = true) := hid (by rw [ht.out]; unfold tornP; rw [hbg]; rfl)
    have HB := hid hbg.symm
    clear ht hbg
    go_enter Try.func43, Try.ntmps43
    go_wp2_with fail
    refine (begins_is _ _ _ _ bs true hr hc hb hn9 HB).mono ?_
    rintro e w1 ⟨rfl, hb1⟩
    go_wp2
    go_ret
    exact ⟨by rw [hT.out]; rfl, hb1⟩
  | false =>
    have hT : Hid (t = (beginsP (flipP bs) || ((firstP (flipP bs)).2.2 && decide ((firstP (flipP bs)).2.1 = bs.length)))) := hid (by rw [ht.out]; unfold tornP; rw [hbg]; rfl)
    have HB := hid hbg.symm
    clear ht hbg
    go_enter Try.func43, Try.ntmps43
    go_wp2_with fail
    refine (begins_is _ _ _ _ bs false hr hc hb hn9 HB).mono ?_
    rintro e w1 ⟨rfl, hb1⟩
    have hr1 := hr.below hb1
    go_wp2_with fail
    refine (clone_any _ _ _ _ _ hr1 hc (by omega)).mono ?_
    rintro e w2 ⟨A2, c2, rfl, ho2, hb2⟩
    have hb3 : Below w.heap.size w w2 := hb1.trans (hb2.mono hb1.size)
    have hsz1 := hb1.size
    have hsz2 := hb2.size
    clear hr hr1 hb2
    obtain ⟨ga, ca, hA, _, _⟩ := ho2.1.form (by rw [hn]; exact hp)
    obtain ⟨rfl, rfl⟩ : A2 = some ⟨ga, 0, none⟩ ∧ ca = c2 := by injection hA with e1 e2 e3; exact ⟨e1, e3.symm⟩
    clear hA
    have hi0 : (0 : Int) ≤ (n : Int) - 1 := by omega
    have hi1 : (n : Int) - 1 < (n : Int) := by omega
    have hiw : IntKind.i64.wrap ((n : Int) - 1) = (n : Int) - 1 := IntWalk.i64_in _ (by omega)
    have hrow := ho2.1
    rw [hn] at hrow
    obtain ⟨a1, a2⟩ := own_at hrow ((n : Int) - 1) hi0 hi1
    have Hst := hid (own_store hrow ((n : Int) - 1) (Go.bits .xor .u8 (rd bs ((n : Int) - 1)) 85)).1
    have hga : w.heap.size ≤ ga := by have := ho2.2 ga rfl; omega
    clear hrow
    have eN : ((n : Int) - 1).toNat = n - 1 := by omega
    rw [eN] at a1 a2 Hst
    clear eN
    have hi2 : 1 ≤ (n : Int) := by omega
    have hfl : Hid (bs.set (n - 1) (Go.bits .xor .u8 (rd bs ((n : Int) - 1)) 85) = flipP bs) := hid (by unfold flipP; rw [hn])
    have hbf := flip_bytes bs hb
    have hln : (flipP bs).length = n := by rw [flip_len, hn]
    have hof : OwnB (w2.setCell ⟨ga, n - 1, none⟩ (.int .u8 (Go.bits .xor .u8 (rd bs ((n : Int) - 1)) 85))) (fun k => w.heap.size ≤ k) (.slice (some ⟨ga, 0, none⟩) n ca) (flipP bs) := by
      have h := Hst.out
      rw [hfl.out] at h
      exact ⟨by rw [hln]; exact h, fun k hk => by simp [Value.ownBlock] at hk; omega⟩
    have hbS : Below w.heap.size w (w2.setCell ⟨ga, n - 1, none⟩ (.int .u8 (Go.bits .xor .u8 (rd bs ((n : Int) - 1)) 85))) := hb3.setCell hga _
    have hcf := hof.reads2.2.1
    have hrf := hof.reads2.2.2
    rcases hfp : firstP (flipP bs) with ⟨fa, fb, fc⟩
    have HFP := hid hfp.symm
    rw [hfp] at hT
    simp only [hn] at hT
    clear hfp hfl Hst hof hln
    go_wp2_with fail
    generalize w2.setCell ⟨ga, n - 1, none⟩ (.int .u8 (Go.bits .xor .u8 (rd bs ((n : Int) - 1)) 85)) = w3 at *
    refine (first_is _ _ _ _ (flipP bs) (fa, fb, fc) hrf hcf hbf hn9 HFP).mono ?_
    rintro e w4 ⟨v4, rfl, hN4, hb4⟩
    have hb5 : Below w.heap.size w w4 := hbS.trans (hb4.mono hbS.size)
    have hrf4 := hrf.below hb4
    clear hN4 hb4 hrf hb3 ho2 hb1 a1 a2
    cases hbg2 : beginsP (flipP bs) with
    | true =>
      have HB2 := hid hbg2.symm
      rw [hbg2] at hT
      have HT := hid (show t = true by rw [hT.out]; rfl)
      clear hbg2 hT
      go_wp2_with fail
      refine (begins_is _ _ _ _ (flipP bs) true hrf4 hcf hbf hn9 HB2).mono ?_
      rintro e w5 ⟨rfl, hb6⟩
      have hb7 := hb5.trans (hb6.mono hb5.size)
      go_wp2
      go_ret
      exact ⟨by rw [HT.out]; rfl, hb7⟩
    | false =>
      have HB2 := hid hbg2.symm
      rw [hbg2] at hT
      have HT := hid (show t = (fc && decide (fb = (n : Int))) by rw [hT.out]; rfl)
      clear hbg2 hT
      go_wp2_with fail
      refine (begins_is _ _ _ _ (flipP bs) false hrf4 hcf hbf hn9 HB2).mono ?_
      rintro e w5 ⟨rfl, hb6⟩
      have hb7 := hb5.trans (hb6.mono hb5.size)
      cases fc with
      | true =>
        go_wp2
        go_ret
        exact ⟨by rw [HT.out]; rfl, hb7⟩
      | false =>
        go_wp2
        go_ret
        exact ⟨by rw [HT.out]; rfl, hb7⟩
end Go.Proofs.Ytnakolpaabpifaa
