/- Parts of slices of bytes; begins and torn. -/
import Derived.Test.YtnakolpaabpifaaJ5
set_option linter.unusedVariables false
set_option linter.unusedSimpArgs false
namespace Go.Proofs.Ytnakolpaabpifaa
open Go.RowKit Go.Proofs.YtnakolpaabpifaaW.PrintWords

theorem tinfo5 : ∃ i, Try.prog.info? 5 = some i ∧ i.size = 1 := by
  have h := info5
  cases hq : Try.prog.info? 5 with
  | none => rw [hq] at h; cases h
  | some i => rw [hq] at h; simp at h; exact ⟨i, rfl, h.2.1⟩
theorem sl_take {A : Option Addr} {n c : Nat} {bs : List Int} (hn : bs.length = n) (hc : n ≤ c) (m : Nat) (j : Int) (hj : j = (m : Int)) (hm : m ≤ n) :
    (∀ W : World, (Instr.slice 30 (.slice A n c) none (some (.int .i64 j)) none).run Try.prog W = .ok (.slice A m c) W) ∧
      (∀ w : World, ReadsInt w .u8 A n bs → ReadsInt w .u8 A m (bs.take m)) ∧ m ≤ c := by
  subst hn; subst hj
  obtain ⟨i, hi, hs⟩ := tinfo5
  have h := print_take_int (P := Try.prog) (k := .u8) 30 5 Try.underlying30 hi hs A c bs (m : Int) (by omega) (by omega) hc
  have e : (bs.take (m : Int).toNat).length = m := by rw [Int.toNat_natCast, List.length_take]; omega
  rw [e] at h
  simpa using h
theorem sl_mid {A : Option Addr} {n c : Nat} {bs : List Int} (hn : bs.length = n) (hc : n ≤ c) (a b : Nat) (x y : Int) (hx : x = (a : Int)) (hy : y = (b : Int)) (hab : a ≤ b) (hb : b ≤ n) :
    ∃ A' : Option Addr, (∀ W : World, (Instr.slice 30 (.slice A n c) (some (.int .i64 x)) (some (.int .i64 y)) none).run Try.prog W = .ok (.slice A' (b - a) (c - a)) W) ∧
      (∀ w : World, ReadsInt w .u8 A n bs → ReadsInt w .u8 A' (b - a) ((bs.drop a).take (b - a))) ∧ b - a ≤ c - a := by
  subst hn; subst hx; subst hy
  obtain ⟨i, hi, hs⟩ := tinfo5
  obtain ⟨A', h1, h2, h3⟩ := print_mid_int (P := Try.prog) (k := .u8) 30 5 Try.underlying30 hi hs A c bs (a : Int) (b : Int) (by omega) (by omega) (by omega) hc
  have e : ((bs.take (b : Int).toNat).drop (a : Int).toNat).length = b - a := by rw [Int.toNat_natCast, Int.toNat_natCast, List.length_drop, List.length_take]; omega
  have e2 : (bs.take (b : Int).toNat).drop (a : Int).toNat = (bs.drop a).take (b - a) := by rw [Int.toNat_natCast, Int.toNat_natCast, List.drop_take]
  rw [e] at h1 h2 h3
  rw [e2] at h2
  exact ⟨A', by simpa using h1, h2, by simpa using h3⟩
theorem sl_drop {A : Option Addr} {n c : Nat} {bs : List Int} (hn : bs.length = n) (hc : n ≤ c) (a : Nat) (x : Int) (hx : x = (a : Int)) (hb : a ≤ n) :
    ∃ A' : Option Addr, (∀ W : World, (Instr.slice 30 (.slice A n c) (some (.int .i64 x)) none none).run Try.prog W = .ok (.slice A' (n - a) (c - a)) W) ∧
      (∀ w : World, ReadsInt w .u8 A n bs → ReadsInt w .u8 A' (n - a) (bs.drop a)) ∧ n - a ≤ c - a := by
  subst hn; subst hx
  obtain ⟨i, hi, hs⟩ := tinfo5
  obtain ⟨A', h1, h2, h3⟩ := print_drop_of (P := Try.prog) (Value.int .u8) (0 : Int) 30 5 .i64 Try.underlying30 hi hs A c bs (a : Int) (by omega) (by omega) hc
  have e : (bs.drop (a : Int).toNat).length = bs.length - a := by rw [Int.toNat_natCast, List.length_drop]
  rw [e] at h1 h2 h3
  refine ⟨A', by simpa using h1, fun w h => ?_, by simpa using h3⟩
  have := h2 w h
  rwa [Int.toNat_natCast] at this

/-- What 'lengths' returns, as it stands in the program. -/
theorem lengths_range (b : List Int) (hb : IsBytes b) : 0 ≤ (lengthsP b).2.1 ∧ (lengthsP b).2.1 ≤ 70000 ∧ (lengthsP b).1.length ≤ 16 := by
  have key : ∀ (m i : Nat) (l : List Int) (t : Int), 0 ≤ t → t ≤ 33 + i * 4096 → l.length ≤ i → i + m ≤ 16 → 0 ≤ (lenLoop b m i l t).2.1 ∧ (lenLoop b m i l t).2.1 ≤ 33 + 16 * 4096 ∧ (lenLoop b m i l t).1.length ≤ 16 := by
    intro m
    induction m with
    | zero => intro i l t h0 h1 h2 h3; rw [lenLoop]; exact ⟨h0, by show t ≤ _; omega, by show l.length ≤ _; omega⟩
    | succ m ih =>
      intro i l t h0 h1 h2 h3
      rw [lenLoop]
      split
      · exact ⟨h0, by show t ≤ _; omega, by show l.length ≤ _; omega⟩
      · split
        · exact ⟨by decide, by decide, by decide⟩
        · have := getP_range _ ((hb.drop (1 + 2 * i)).take 2)
          exact ih _ _ _ (by omega) (by omega) (by simp; omega) (by omega)
  unfold lengthsP
  cases b with
  | nil => exact ⟨by decide, by decide, by decide⟩
  | cons n b =>
    simp only
    split
    · exact ⟨by decide, by decide, by decide⟩
    · have := key n.toNat 0 [] (1 + 2 * n) (by omega) (by omega) (by simp) (by omega)
      omega

theorem add_zero' (a : Addr) : a.add 0 = a := by unfold Addr.add; split <;> simp_all
set_option maxHeartbeats 1000000 in
theorem begins_is (w : World) (A : Option Addr) (n c : Nat) (bs : List Int) (t : Bool) (hr : ReadsInt w .u8 A n bs) (hc : n ≤ c) (hb : IsBytes bs) (hn9 : n ≤ 1000000000) (ht : Hid (t = beginsP bs)) :
    Calls Try.prog 51 #[.slice A n c] w fun e w' => e = .returned (.bool t) ∧ Below w.heap.size w w' := by
  have hn : bs.length = n := hr.1
  by_cases h4 : n < 4
  · have hres : t = reachP bs := by rw [ht.out]; unfold beginsP; rw [if_pos (by omega)]
    rw [hres]
    go_enter Try.func51, Try.ntmps51
    go_wp2_with fail
    refine (reach_any _ _ _ _ bs hr hc hb h4).mono ?_
    rintro e w1 ⟨rfl, hb1⟩
    go_wp2
    go_ret
    exact ⟨rfl, hb1⟩
  · obtain ⟨s1, s2, s3⟩ := sl_take (A := A) hn hc 4 4 rfl (by omega)
    have r4 := s2 w hr
    have b4 : IsBytes (bs.take 4) := hb.take 4
    have hg := getP_range (bs.take 4) b4
    have hl4 : (bs.take 4).length = 4 := r4.1
    rw [hl4] at hg
    have hg2 : getP (bs.take 4) < 4294967296 := hg.2
    have hg1 := hg.1
    clear hg hl4
    rcases hq : lengthsP (bs.drop 8) with ⟨L, tt, wh, okk⟩
    have hl9 := lengths_range _ (hb.drop 8)
    rw [hq] at hl9
    simp only at hl9
    have hrd := rd_byte (hb.drop 8) 0
    have hl8 : (bs.drop 8).length = n - 8 := by rw [List.length_drop, hn]
    have hres : Hid (t = if getP (bs.take 4) < 3 ∨ 65569 < getP (bs.take 4) then false else if n ≤ 8 then true else if getP (bs.take 4) ≤ ((n - 8 : Nat) : Int) then false
      else if okk = false then false else if wh = true then decide (tt = getP (bs.take 4))
      else decide (tt ≤ getP (bs.take 4) ∧ getP (bs.take 4) ≤ tt + (rd (bs.drop 8) 0 - L.length) * 4096)) := by
      refine hid ?_
      rw [ht.out]
      unfold beginsP; rw [if_neg (by omega)]
      simp only [hq, hl8, hn]
    have HQ := hid hq
    clear ht hq
    obtain ⟨l0, l1, l2⟩ := hl9
    generalize hgg : getP (bs.take 4) = g at *
    generalize hx : rd (bs.drop 8) 0 = x at *
    go_enter Try.func51, Try.ntmps51
    go_wp2_with fail
    refine (get_any _ _ _ _ _ r4 s3 b4 (by omega)).mono ?_
    rintro e w1 ⟨rfl, hb1⟩
    rw [hgg]
    have hwg : wrap64 g = g := w64 g (by omega) (by omega)
    clear s1 s2 s3 r4 hgg
    by_cases hq : g < 3 ∨ 65569 < g
    · have h := hres.out
      rw [if_pos hq] at h
      clear hres
      rcases hq with hq | hq
      all_goals
        go_wp2
        go_ret
        exact ⟨by rw [h]; rfl, hb1⟩
    · have q1 : ¬ g < 3 := by omega
      have q2 : ¬ 65569 < g := by omega
      by_cases h8 : n ≤ 8
      · go_wp2
        go_ret
        have h := hres.out
        rw [if_neg hq, if_pos h8] at h
        exact ⟨by rw [h]; rfl, hb1⟩
      · obtain ⟨A8, u1, u2, u3⟩ := sl_drop (A := A) hn hc 8 8 rfl (by omega)
        have r8 := u2 w1 (hr.below hb1)
        have b8 : IsBytes (bs.drop 8) := hb.drop 8
        by_cases hge : g ≤ ((n - 8 : Nat) : Int)
        · go_wp2
          go_ret
          have h := hres.out
          rw [if_neg hq, if_neg h8, if_pos hge] at h
          exact ⟨by rw [h]; rfl, hb1⟩
        · have h := hres.out
          rw [if_neg hq, if_neg h8, if_neg hge] at h
          have H := hid h
          clear h hres hq
          go_wp2_with fail
          refine (lengths_any _ _ _ _ _ r8 u3 b8).mono ?_
          rintro e w2 ⟨A9, n9, c9, rfl, hc9, r9, hb2⟩
          rw [HQ.out] at r9 ⊢
          have hn9' : L.length = n9 := r9.1
          rw [hn9'] at l2 H
          have hb3 : Below w.heap.size w w2 := hb1.trans (hb2.mono hb1.size)
          have r8' := r8.below hb2
          obtain ⟨ad, rfl, hcell⟩ := r8'.2.2 (by omega)
          have hc0 : w2.cell? (ad.add 0) = some (.int .u8 x) := by rw [← hx]; exact hcell 0 (by omega)
          have hc1 : w2.cell? ad = some (.int .u8 x) := by rw [add_zero'] at hc0; exact hc0
          clear hcell r8 r8' r9 hb2 hb1 u1 u2
          cases okk with
          | false =>
            go_wp2
            go_ret
            have h := H.out
            rw [if_pos (by simp)] at h
            exact ⟨by rw [h]; rfl, hb3⟩
          | true =>
            cases wh with
            | true =>
              go_wp2
              go_ret
              have h := H.out
              rw [if_neg (by simp), if_pos (by simp)] at h
              exact ⟨by rw [h]; rfl, hb3⟩
            | false =>
              have h := H.out
              rw [if_neg (by simp), if_neg (by simp)] at h
              have H2 := hid h
              clear h H
              by_cases hle : tt ≤ g
              · go_wp2
                go_ret
                have h := H2.out
                refine ⟨?_, hb3⟩
                have e1 : wrap64 (x - (n9 : Int)) = x - n9 := w64 _ (by omega) (by omega)
                have e2 : wrap64 ((x - (n9 : Int)) * 4096) = (x - n9) * 4096 := w64 _ (by omega) (by omega)
                have e3 : wrap64 (tt + (x - (n9 : Int)) * 4096) = tt + (x - n9) * 4096 := w64 _ (by omega) (by omega)
                have e4 : decide (tt ≤ g ∧ g ≤ tt + (x - (n9 : Int)) * 4096) = decide (g ≤ tt + (x - (n9 : Int)) * 4096) := by simp [hle]
                rw [h, e4]
                rfl
              · go_wp2
                go_ret
                have h := H2.out
                rw [decide_eq_false (by omega)] at h
                exact ⟨by rw [h]; rfl, hb3⟩
end Go.Proofs.Ytnakolpaabpifaa
