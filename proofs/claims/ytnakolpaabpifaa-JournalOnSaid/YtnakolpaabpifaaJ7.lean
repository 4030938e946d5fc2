/- The first frame is read. -/
import Derived.Test.YtnakolpaabpifaaJ6
import Derived.Test.YtnakolpaabpifaaWLast
import Derived.BigQuiet
import Derived.Deep.RegionHeld3
set_option linter.unusedVariables false
set_option linter.unusedSimpArgs false
namespace Go.Proofs.Ytnakolpaabpifaa
open Go.RowKit Go.Proofs.YtnakolpaabpifaaW.PrintWords Go.Proofs.YtnakolpaabpifaaW.PrintLast

theorem info30 : (Try.prog.info? 30).map (fun i => (i.zero, i.size, i.bytes)) = some (some (.slice none 0 0), 1, 24) := by kernel_rfl

def sumN (L : List Int) : Nat := (L.map Int.toNat).sum
theorem sumN_snoc (L : List Int) (x : Int) : sumN (L ++ [x]) = sumN L + x.toNat := by simp [sumN]
theorem cutP_snoc (b : List Int) (L : List Int) (x : Int) : cutP b (L ++ [x]) = cutP b L ++ [(b.drop (sumN L)).take x.toNat] := by
  induction L generalizing b with
  | nil => simp [cutP, sumN]
  | cons k L ih =>
    simp only [List.cons_append, cutP, ih, List.drop_drop]
    have : sumN (k :: L) = k.toNat + sumN L := by simp [sumN]
    rw [this]
theorem cutP_length (b : List Int) (L : List Int) : (cutP b L).length = L.length := by
  induction L generalizing b with
  | nil => rfl
  | cons k L ih => simp [cutP, ih]
theorem take_snoc (L : List Int) (j : Nat) (h : j < L.length) : L.take (j + 1) = L.take j ++ [L[j]] := by rw [List.take_succ_eq_append_getElem h]
theorem sumN_take_le (L : List Int) (j : Nat) : sumN (L.take j) ≤ sumN L := by
  have : L = L.take j ++ L.drop j := (List.take_append_drop j L).symm
  have e : sumN L = sumN (L.take j) + sumN (L.drop j) := by
    unfold sumN
    rw [← List.sum_append, ← List.map_append, List.take_append_drop]
  omega
/-- Whole lengths: their sum. -/
theorem lengths_whole (b : List Int) (hb : IsBytes b) (L : List Int) (t : Int) (h : lengthsP b = (L, t, true, true)) : t = 1 + 2 * L.length + sumN L ∧ (∀ x ∈ L, 0 ≤ x) := by
  have key : ∀ (m i : Nat) (l : List Int) (s : Int) (M : List Int) (u : Int), lenLoop b m i l s = (M, u, true, true) → s = 1 + 2 * (l.length + m : Nat) + sumN l → (∀ x ∈ l, 0 ≤ x) → u = 1 + 2 * M.length + sumN M ∧ ∀ x ∈ M, 0 ≤ x := by
    intro m
    induction m with
    | zero =>
      intro i l s M u h hs hl
      simp only [lenLoop, Prod.mk.injEq] at h
      obtain ⟨rfl, rfl, _⟩ := h
      exact ⟨by omega, hl⟩
    | succ m ih =>
      intro i l s M u h hs hl
      rw [lenLoop] at h
      split at h
      · simp at h
      · split at h
        · simp at h
        · have hg := getP_range _ ((hb.drop (1 + 2 * i)).take 2)
          refine ih _ _ _ M u h ?_ fun x hx => ?_
          · rw [sumN_snoc, List.length_append, List.length_singleton]; omega
          · rcases List.mem_append.1 hx with hx | hx
            · exact hl x hx
            · rw [List.mem_singleton] at hx; subst hx; exact hg.1
  unfold lengthsP at h
  cases b with
  | nil => simp at h
  | cons n b =>
    simp only at h
    split at h
    · simp at h
    · exact key _ _ _ _ L t h (by simp [sumN]; omega) (by simp)

/-- What 'first' returns. -/
def FirstPost (w : World) (r : List (List Int) × Int × Bool) (e : Ending) (w' : World) : Prop :=
  ∃ v, e = .returned (.tuple #[v, .int .i64 r.2.1, .bool r.2.2]) ∧ Kd.N KB 30 w' w.heap.size (fun k => w.heap.size ≤ k) v r.1 ∧ Below w.heap.size w w'
theorem FirstPost.none {w w' : World} (hb : Below w.heap.size w w') : FirstPost w ([], 0, false) (.returned (.tuple #[.slice none 0 0, .int .i64 0, .bool false])) w' :=
  ⟨_, rfl, Kd.N_nil _ _ _ _ _, hb⟩

set_option maxRecDepth 100000 in
set_option maxHeartbeats 1000000 in
theorem first_is (w : World) (A : Option Addr) (n c : Nat) (bs : List Int) (r : List (List Int) × Int × Bool) (hr : ReadsInt w .u8 A n bs) (hc : n ≤ c) (hb : IsBytes bs) (hn9 : n ≤ 1000000000) (ht : Hid (r = firstP bs)) :
    Calls Try.prog 42 #[.slice A n c] w (FirstPost w r) := by
  have hn : bs.length = n := hr.1
  by_cases h8 : n < 8
  · have hres : r = ([], 0, false) := by rw [ht.out]; unfold firstP; rw [if_pos (by omega)]
    rw [hres]
    go_enter Try.func42, Try.ntmps42
    go_wp2
    refine bodyPost_ret (results_list (rs := [.tmp 2, .tmp 3, .tmp 4]) rfl (by simp) (.tmp (.tmp (.tmp .nil)))) rfl ?_
    exact FirstPost.none (Below.refl _ _)
  · obtain ⟨s1, s2, s3⟩ := sl_take (A := A) hn hc 4 4 rfl (by omega)
    have r4 := s2 w hr
    have b4 : IsBytes (bs.take 4) := hb.take 4
    have hg := getP_range (bs.take 4) b4
    have hl4 : (bs.take 4).length = 4 := r4.1
    rw [hl4] at hg
    have hg2 : getP (bs.take 4) < 4294967296 := hg.2
    have hg1 := hg.1
    clear hg hl4
    have HG := hid (rfl : getP (bs.take 4) = getP (bs.take 4))
    generalize hgg : getP (bs.take 4) = g at HG hg1 hg2
    go_enter Try.func42, Try.ntmps42
    go_wp2_with fail
    refine (get_any _ _ _ _ _ r4 s3 b4 (by omega)).mono ?_
    rintro e w1 ⟨rfl, hb1⟩
    rw [hgg]
    have hwg : wrap64 g = g := w64 _ (by omega) (by omega)
    by_cases hq : 65569 < g ∨ (n : Int) < 8 + g
    · have hres : r = ([], 0, false) := by rw [ht.out]; unfold firstP; rw [if_neg (by omega), hgg, if_pos (by rw [hn]; exact hq)]
      have HR := hid hres
      clear hres
      rcases hq with hq | hq
      all_goals
        go_wp2
        all_goals
          refine bodyPost_ret (results_list (rs := [.tmp 2, .tmp 3, .tmp 4]) rfl (by simp) (.tmp (.tmp (.tmp .nil)))) rfl ?_
          rw [HR.out]
          exact FirstPost.none hb1
    · have q1 : ¬ 65569 < g := by omega
      have q2 : ¬ (n : Int) < 8 + g := by omega
      obtain ⟨A8, u1, u2, u3⟩ := sl_mid (A := A) hn hc 8 (8 + g.toNat) 8 (8 + g) rfl (by omega) (by omega) (by omega)
      rw [show 8 + g.toNat - 8 = g.toNat by omega] at u1 u2 u3
      have r8 := u2 w1 (hr.below hb1)
      have b8 : IsBytes ((bs.drop 8).take g.toNat) := (hb.drop 8).take _
      have hl9 := lengths_range _ b8
      rcases hlp : lengthsP ((bs.drop 8).take g.toNat) with ⟨L, tt, wh, okk⟩
      rw [hlp] at hl9
      simp only at hl9
      obtain ⟨l0, l1, l2⟩ := hl9
      have hres : Hid (r = if okk = true ∧ wh = true ∧ tt = g ∧ sumP (bs.take 4 ++ (bs.drop 8).take g.toNat) = getP ((bs.drop 4).take 4) then (cutP (((bs.drop 8).take g.toNat).drop (1 + 2 * L.length)) L, 8 + g, true) else ([], 0, false)) := by
        refine hid ?_
        rw [ht.out]; unfold firstP; rw [if_neg (by omega), hgg, if_neg (by rw [hn]; exact hq)]
        simp only [hlp]
      have HL := hid hlp
      clear ht hlp hq
      go_wp2_with fail
      refine (lengths_any _ _ _ _ _ r8 u3 b8).mono ?_
      rintro e w2 ⟨A9, n9, c9, rfl, hc9, r9, hb2⟩
      rw [HL.out] at r9 ⊢
      have hn9' : L.length = n9 := r9.1
      rw [hn9'] at l2
      have hb3 : Below w.heap.size w w2 := hb1.trans (hb2.mono hb1.size)
      have r8' := r8.below hb2
      have r4' := s2 w2 (hr.below hb3)
      clear r8 hb2 hb1 r4
      by_cases hcond : okk = true ∧ wh = true ∧ tt = g
      · obtain ⟨rfl, rfl, rfl⟩ := hcond
        obtain ⟨A44, v1, v2, v3⟩ := sl_mid (A := A) hn hc 4 8 4 8 rfl rfl (by omega) (by omega)
        have r44 := v2 w2 (hr.below hb3)
        have b44 : IsBytes ((bs.drop 4).take 4) := (hb.drop 4).take 4
        have hsl : 4 + tt.toNat ≤ 1000000000 := by omega
        clear u1 u2 v2 s2 hr HG hgg
        generalize hx1 : sumP (bs.take 4 ++ (bs.drop 8).take tt.toNat) = x1 at hres
        generalize hx2 : getP ((bs.drop 4).take 4) = x2 at hres
        have HX1 := hid hx1
        have HX2 := hid hx2
        clear hx1 hx2
        go_wp2
        go_region_held3 (fun w' => Below w2.heap.size w2 w') (first | exact Below.refl _ _ | exact below_drew (Below.refl _ _) | exact hS | exact below_drew (by assumption) | exact pw_below_drewN (by assumption) _ | go_keep)
          ((first
            | (go_at_call 50; refine (fsum_any _ _ _ _ _ _ _ (bs.take 4) ((bs.drop 8).take tt.toNat) (r4'.below (by assumption)) s3 (r8'.below (by assumption)) u3 b4 b8 hsl).mono ?_; rintro e w' ⟨rfl, hbx⟩; rw [HX1.out]; have hS := Below.trans (show Below w2.heap.size w2 _ by assumption) (hbx.mono (show Below w2.heap.size w2 _ by assumption).size))
            | (go_at_call 48; refine (get_any _ _ _ _ _ (r44.below (by assumption)) v3 b44 (by omega)).mono ?_; rintro e w' ⟨rfl, hbx⟩; rw [HX2.out]; have hS := Below.trans (show Below w2.heap.size w2 _ by assumption) (hbx.mono (show Below w2.heap.size w2 _ by assumption).size))))
        rename_i hHeld
        have hbz : Below w.heap.size w w' := hb3.trans (hHeld.mono hb3.size)
        have hHeld' := hHeld
        clear hbx hS hHeld
        by_cases hsum : x1 = x2
        · subst hsum
          go_wp2
          have hall : r = (cutP (((bs.drop 8).take tt.toNat).drop (1 + 2 * n9)) L, 8 + tt, true) := by
            rw [hres.out, if_pos ⟨trivial, trivial, trivial, trivial⟩, hn9']
          have HA := hid hall
          obtain ⟨t1, t2⟩ := lengths_whole _ b8 L tt HL.out
          rw [hn9'] at t1
          clear hall hres s1 v1
          have r9' := r9.below (w1 := w') hHeld'
          generalize hbd : (bs.drop 8).take tt.toNat = body at *
          go_loopw [11, 12, 14, 69] (fun v11 v12 v14 v69 wr => ∃ j : Nat, v69 = .int .i64 j ∧ j ≤ n9 ∧ v12 = .int .i64 ((1 + 2 * n9 + sumN (L.take j) : Nat) : Int) ∧ Kd.N KB 30 wr w2.heap.size (fun k => w2.heap.size ≤ k) v11 (cutP (body.drop (1 + 2 * n9)) (L.take j)) ∧ Below w2.heap.size w2 wr) (fun _ _ _ v69 _ => n9 - (intOf v69).toNat)
          case atStart => exact ⟨0, rfl, Nat.zero_le _, by simp [sumN], Kd.N_nil _ _ _ _ _, hHeld'⟩
          case round =>
            obtain ⟨j, rfl, hj, rfl, hN, hbw⟩ := hrel
            have hsz := hbw.size
            have hsz3 := hb3.size
            by_cases hlt : j < n9
            · obtain ⟨ad9, rfl, hcell⟩ := (r9.below hbw).2.2 (by omega)
              have q9 := hcell j hlt
              have hLj : L.getD j 0 = L[j]'(by omega) := by rw [List.getD_eq_getElem?_getD, List.getElem?_eq_getElem (by omega)]; rfl
              rw [hLj] at q9
              have hx0 := t2 _ (List.getElem_mem (show j < L.length by omega))
              have hts := take_snoc L j (by omega)
              have hle := sumN_take_le L (j + 1)
              have hcs := cutP_snoc (body.drop (1 + 2 * n9)) (L.take j) (L[j]'(by omega))
              rw [← hts, List.drop_drop] at hcs
              rw [hts, sumN_snoc] at hle
              have hs2 : 1 + 2 * n9 + sumN (L.take (j + 1)) = 1 + 2 * n9 + sumN (L.take j) + (L[j]'(by omega)).toNat := by rw [hts, sumN_snoc]; omega
              have hcl : (cutP (body.drop (1 + 2 * n9)) (L.take j)).length = j := by rw [cutP_length, List.length_take]; omega
              clear hcell hLj hts
              generalize L[j]'(by omega) = x at *
              have hp0 : 1 + 2 * n9 + sumN (L.take j) + x.toNat ≤ tt.toNat := by omega
              generalize hq : cutP (body.drop (1 + 2 * n9)) (L.take j) = acc at *
              generalize hp : 1 + 2 * n9 + sumN (L.take j) = p at *
              have HS := hid hs2
              have HC := hid hcs
              clear hs2 hcs hq hp hle t1 t2
              have hpx : (p : Int) + x = ((p + x.toNat : Nat) : Int) := by omega
              obtain ⟨A7, y1, y2, y3⟩ := sl_mid (A := A8) (c := c - 8) (bs := body) r8'.1 u3 p (p + x.toNat) (p : Int) ((p : Int) + x) rfl hpx (by omega) (by omega)
              rw [show p + x.toNat - p = x.toNat by omega] at y1 y2 y3
              have ry := y2 wr (r8'.below hbw)
              clear hpx
              go_wp2_with fail
              refine (clone_any _ A7 _ _ _ ry y3 (by omega)).mono ?_
              rintro e w3 ⟨A1, c1, rfl, ho1, hb1⟩
              have hN3 := Kd.N_below hN hb1
              have hlt3 := Kd.N_lt hN
              have hb4' : Below w2.heap.size w2 w3 := hbw.trans (hb1.mono hsz)
              have hbz3 : Below w.heap.size w w3 := hb3.trans (hb4'.mono hsz3)
              have hfk := ho1.fk
              clear ry y1 y2 ho1 hN
              go_wp2_with (at_builtin; refine Kd.N_append KB (w0 := w2) w2.heap.size rfl (.tmp 73) (.tmp 81) 55 30 (.slice none 0 0) 24 rfl Try.underlying55 info30 rfl (by decide) (by decide) u11 acc _ _ (fun k => w2.heap.size ≤ k) (fun k => wr.heap.size ≤ k) rfl rfl hfk (fun k hk => ⟨by omega, fun e => by have := hlt3 k e.symm; omega⟩) (fun k hk => by have := hb4'.size; omega) hN3 hb4' hb4'.size (by omega) ?_)
              intro v1 w4 hN4 hb4 hg4 hat4
              clear hb4' hg4 hat4 hN3 hlt3 hbz3 hfk hb1
              go_wp2
              go_roundw
              case rel => exact ⟨j + 1, by go_num, by omega, by rw [HS.out]; go_num, by rw [HC.out]; exact hN4, hb4⟩
              case measure => simp [intOf]; omega
            · obtain rfl : j = n9 := by omega
              have hLt : L.take j = L := by rw [← hn9', List.take_length]
              rw [hLt] at hN
              have hbx := hb3.trans (hbw.mono hb3.size)
              clear hbw t1 t2
              go_wp2
              refine bodyPost_ret (results_list (rs := [.tmp 2, .tmp 3, .tmp 4]) rfl (by simp) (.tmp (.tmp (.tmp .nil)))) rfl ?_
              rw [HA.out]
              exact ⟨_, rfl, Kd.N_mono (Kd.N_lower hN hsz3) (fun k hk => by omega), hbx⟩
        · have hfin0 : r = ([], 0, false) := by
            rw [hres.out, if_neg (fun h => hsum h.2.2.2)]
          have HF := hid hfin0
          clear hfin0
          go_wp2
          refine bodyPost_ret (results_list (rs := [.tmp 2, .tmp 3, .tmp 4]) rfl (by simp) (.tmp (.tmp (.tmp .nil)))) rfl ?_
          rw [HF.out]
          exact FirstPost.none hbz
      · have hfin0 : r = ([], 0, false) := by
          rw [hres.out, if_neg (fun h => hcond ⟨h.1, h.2.1, h.2.2.1⟩)]
        have HF := hid hfin0
        clear hfin0
        cases okk with
        | false =>
          go_wp2_with (go_quiet (fail))
          all_goals
            refine bodyPost_ret (results_list (rs := [.tmp 2, .tmp 3, .tmp 4]) rfl (by simp) (.tmp (.tmp (.tmp .nil)))) rfl ?_
            rw [HF.out]
            exact FirstPost.none (pw_below_drewN hb3 _)
        | true =>
          cases wh with
          | false =>
            go_wp2_with (go_quiet (fail))
            all_goals
              refine bodyPost_ret (results_list (rs := [.tmp 2, .tmp 3, .tmp 4]) rfl (by simp) (.tmp (.tmp (.tmp .nil)))) rfl ?_
              rw [HF.out]
              exact FirstPost.none (pw_below_drewN hb3 _)
          | true =>
            have hne : ¬ tt = g := fun h => hcond ⟨rfl, rfl, h⟩
            go_wp2_with (go_quiet (fail))
            all_goals
              refine bodyPost_ret (results_list (rs := [.tmp 2, .tmp 3, .tmp 4]) rfl (by simp) (.tmp (.tmp (.tmp .nil)))) rfl ?_
              rw [HF.out]
              exact FirstPost.none (pw_below_drewN hb3 _)
end Go.Proofs.Ytnakolpaabpifaa
