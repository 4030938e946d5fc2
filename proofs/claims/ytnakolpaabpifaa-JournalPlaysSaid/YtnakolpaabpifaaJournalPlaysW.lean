/- The walk of the law JournalPlays. -/
import Derived.Test.YtnakolpaabpifaaJ19
set_option linter.unusedVariables false
set_option linter.unusedSimpArgs false
namespace Go.Proofs.Ytnakolpaabpifaa.journalPlays
open Go.RowKit Go.Proofs.YtnakolpaabpifaaW.PrintWords Go.Proofs.YtnakolpaabpifaaW.PrintLast

/-- What the law knows of the records so far. -/
structure Known (k : Nat) (all : List (List Int)) (fs : List (List (List Int))) (D : DS) : Prop where
  flat : all = fs.flatten
  quiet : Quiet D 20000 (framesP fs)
  valid : ∀ rs ∈ fs, VR rs
  size : (framesP fs).length ≤ k * 120
  len : ∀ r ∈ all, r.length ≤ 100000
  count : all.length ≤ k * 3

theorem blk_y6 {w w1 : World} {bo o : Nat} {v : Value} {u : Value} (h : w.cell? ⟨bo, o, none⟩ = some v) (hg : w.grownBy w1 u.ownBlock) (hne : u.ownBlock = some bo → False) : w1.cell? ⟨bo, o, none⟩ = some v :=
  (World.cell?_of_block (hg.block bo (World.block_lt_of_cell? w _ h) (fun e => hne e.symm))).trans h
theorem Known.same {k : Nat} {all : List (List Int)} {fs : List (List (List Int))} {D : DS} (h : Known k all fs D) : Known (k + 1) all fs D := ⟨h.flat, h.quiet, h.valid, by have := h.size; omega, h.len, by have := h.count; omega⟩
theorem batch_frame {rs : List (List Int)} (h : BatchOk rs) : (frameP rs).length ≤ 120 := by
  have h1 : rs.flatten.length ≤ 30 * rs.length := by
    have h2 := h.2
    clear h
    induction rs with
    | nil => simp
    | cons r rs ih =>
      have a := ih fun x hx => h2 x (List.mem_cons_of_mem _ hx)
      have b := (h2 r (by simp)).1
      rw [List.flatten_cons, List.length_append, List.length_cons]
      omega
  have h2 := h.1
  rw [frameP_length, bodyP_length]
  omega
theorem batch_vr {rs : List (List Int)} (h : BatchOk rs) (h0 : 0 < rs.length) : VR rs := ⟨h0, by have := h.1; omega, fun r hr => by have := (h.2 r hr).1; omega, fun r hr => (h.2 r hr).2⟩
theorem Known.more {k : Nat} {all rs : List (List Int)} {fs : List (List (List Int))} {D D3 : DS} (h : Known k all fs D) (hb : BatchOk rs) (h0 : 0 < rs.length) (q : Quiet D3 20000 (framesP fs ++ frameP rs)) : Known (k + 1) (all ++ rs) (fs ++ [rs]) D3 := by
  have hfr : framesP (fs ++ [rs]) = framesP fs ++ frameP rs := by unfold framesP; rw [List.flatMap_append]; simp
  refine ⟨by rw [List.flatten_append, ← h.flat]; simp, by rw [hfr]; exact q, fun x hx => ?_, by rw [hfr, List.length_append]; have := batch_frame hb; have := h.size; omega, fun r hr => ?_, by rw [List.length_append]; have := hb.1; have := h.count; omega⟩
  · rcases List.mem_append.1 hx with hx | hx
    · exact h.valid x hx
    · rw [List.mem_singleton] at hx; subst hx; exact batch_vr hb h0
  · rcases List.mem_append.1 hr with hr | hr
    · exact h.len r hr
    · have := (hb.2 r hr).1; omega

set_option maxRecDepth 100000 in
set_option maxHeartbeats 1600000 in
theorem walk (a0 : Option Addr) (len0 cap0 : Nat) (F : Nat → Nat → Int) (a1 a2 : Int) (w : World) (w0 : IsArr .u8 3 w a0 len0 cap0 F) (w1 : (Lit.int .i64 a1).wf = true) (w2 : (Lit.int .i64 a2).wf = true) :
    Calls Try.prog 7 #[.slice a0 len0 cap0, .int .i64 a1, .int .i64 a2] w fun e w' => e = .returned (.bool true) ∧ Below w.heap.size w w' := by
  have H0 := hid w0
  clear w0 w1 w2
  go_enter Try.func7, Try.ntmps7
  go_wp2_with fail
  refine (new_any _ 20000 (by decide) (by decide)).mono ?_
  rintro e w1 ⟨rfl, hd1, hb1⟩
  go_wp2_with fail
  refine (open_quiet w1 (fun k => k = w.heap.size) w.heap.size (DS.new 20000) 20000 [] [] [] hd1 (fun k hk => by subst hk; exact hd1.lt) (Quiet.new 20000) (hid rfl) (hid rfl) (by simp)).mono ?_
  rintro e w2 ⟨gj, D2, rfl, hj2, hf2, q2⟩
  have hb2 : Below w.heap.size w w2 := hb1.trans (hf2.below hb1.size (fun k hk => by omega))
  have hj3 : JD w2 (fun k => w.heap.size ≤ k ∧ k < w2.heap.size) gj w.heap.size [] false D2 := (hj2.mono (S1 := fun k => w.heap.size ≤ k) (fun k hk => by rcases hk with hk | hk; omega; have := hb1.size; omega)).bound
  have hJL := JL.start hj3
  clear hd1 hf2 hj2 hb1 hj3
  go_wp2
  go_loopw [7, 9, 10, 11, 12, 13, 14] (fun v7 v9 v10 v11 v12 _ _ wr => ∃ (k gd gj : Nat) (all : List (List Int)) (fs : List (List (List Int))) (D : DS), v7 = .pointer (some ⟨gd, 0, none⟩) ∧ v9 = .pointer (some ⟨gj, 0, none⟩) ∧ v12 = .int .i64 k ∧ k ≤ len0 ∧ k ≤ 20 ∧ JL w.heap.size wr gj gd v11 all all false D ∧ Hid (Known k all fs D) ∧ Below w.heap.size w wr) (fun _ _ _ _ v12 _ _ _ => 20 - (intOf v12).toNat)
  case atStart => exact ⟨0, _, gj, [], [], D2, rfl, rfl, rfl, Nat.zero_le _, by decide, hJL, hid ⟨rfl, q2, by simp, by simp [framesP], by simp, by simp⟩, hb2⟩
  case round =>
    clear hJL q2 hb2
    obtain ⟨k, gd, gk, all, fs, D, rfl, rfl, rfl, hk, hk2, hJ, HK, hb⟩ := hrel
    by_cases hlt : k < len0 ∧ k < 20
    · obtain ⟨hlt1, hlt2⟩ := hlt
      obtain ⟨bo, off, rfl, hbo, hcell⟩ := H0.out.2.2 (by omega)
      obtain ⟨c0, w0⟩ := hcell k hlt1 0 (by decide)
      obtain ⟨c1, w1'⟩ := hcell k hlt1 1 (by decide)
      obtain ⟨c2, w2'⟩ := hcell k hlt1 2 (by decide)
      have y0 : wr.cell? ⟨bo, off + k * 3, none⟩ = some (.int .u8 (F k 0)) := (hb.cell hbo).trans c0
      have y1 : wr.cell? ⟨bo, off + k * 3 + 1, none⟩ = some (.int .u8 (F k 1)) := (hb.cell hbo).trans c1
      have y2 : wr.cell? ⟨bo, off + k * 3 + 2, none⟩ = some (.int .u8 (F k 2)) := (hb.cell hbo).trans c2
      have r0 := wf_u8 w0
      have r1 := wf_u8 w1'
      have r2 := wf_u8 w2'
      clear c0 c1 c2 hcell w0 w1' w2'
      generalize F k 0 = x0 at *
      generalize F k 1 = x1 at *
      generalize F k 2 = x2 at *
      go_wp2_with fail
      refine (batch_any wr x0 x1 x2 r0 r1 r2).mono ?_
      rintro e w3 ⟨vb, rs, rfl, hNb, hB, hln, hb3⟩
      obtain ⟨Ab, cb, rfl⟩ := Kd.N_slice hNb
      have hFb := Kd.N_F (Kd.N_bound hNb)
      have hcb := (Kd.N_reads' hNb).2.1
      obtain ⟨S, hjd, hS, hrows⟩ := hJ
      have hvlt := Kd.N_lt hrows
      have hbase := hb.size
      have hs3 := hb3.size
      have hj3 := hjd.move hs3 fun k _ hl => hb3.block k hl
      have hr3 := Kd.N_below hrows hb3
      have y3 := pw_cell_below hb3 y0
      have hB3 : Below w.heap.size w w3 := hb.trans (hb3.mono hbase)
      clear hNb hjd hrows y0 y1 y2
      rcases Nat.eq_zero_or_pos rs.length with hz | hz
      · obtain rfl : rs = [] := List.eq_nil_of_length_eq_zero hz
        have hok4 : ∀ k, (wr.heap.size ≤ k ∧ k < w3.heap.size) → (w.heap.size ≤ k ∧ ¬ S k) ∧ some k ≠ u11.ownBlock := fun k hk => ⟨⟨by omega, fun h => by have := (hS k h).2; omega⟩, fun e => by have := hvlt k e.symm; omega⟩
        have HK2 : Hid (Known (k + 1) all fs D) := hid HK.out.same
        go_wp2_with fail
        refine (append_empty _ _ _ _).mono ?_
        rintro e w4 ⟨rfl, rfl⟩
        go_wp2_with (at_builtin; refine Kd.N_append_rows KB (w0 := w3) 0 rfl (.tmp 64) (.tmp 65) 55 30 (.slice none 0 0) 24 rfl Try.underlying55 info30 rfl (by decide) (by decide) u11 all [] Ab 0 cb (fun k => w.heap.size ≤ k ∧ ¬ S k) (fun k => wr.heap.size ≤ k ∧ k < w3.heap.size) rfl rfl hr3 hFb hok4 (fun k hk => ⟨by omega, fun h => by have := (hS k h).2; omega⟩) (Below.refl _ _) (Nat.zero_le _) (by have := HK.out.count; omega) ?_)
        intro v6 w6 hN6 _ hg6 _
        have hj7 := hj3.move (w1 := w6) hg6.size fun k hk hl => hg6.block k hl fun e => (hr3.1 k e.symm).2 hk
        have hb6 : Below w.heap.size w w6 := hB3.grown hg6 hB3.size fun k hk => (hr3.1 k hk).1
        have hJ6 : JL w.heap.size w6 gk gd v6 all all false D := ⟨S, hj7, fun k hk => ⟨(hS k hk).1, by have := (hS k hk).2; have := hg6.size; omega⟩, hN6⟩
        have y6 := blk_y6 y3 hg6 (fun e => by have := (hr3.1 bo e).1; omega)
        clear hN6 hg6 hj7 hj3 hr3 hFb hok4 hB3 y3 hvlt
        have HL := hid (show ∀ r ∈ all, r.length ≤ 100000 from HK2.out.len)
        have hc6 : (all).length ≤ 1000000000 := by have := HK2.out.count; omega
        go_wp2_with fail
        refine (hJ6.holds HL.out hc6).mono ?_
        rintro e w7 ⟨rfl, hb7⟩
        have hJ7 := hJ6.move hb7
        have hb8 := hb6.trans (hb7.mono hb6.size)
        have y7 := pw_cell_below hb7 y6
        clear hJ6 hb7 hb6 y6
        go_wp2_with fail
        refine hJ7.dead.mono ?_
        rintro e w8 ⟨rfl, rfl⟩
        by_cases hq : x0 / 4 % 5 = 0
        · obtain ⟨S7, hjd7, hS7, hrows7⟩ := hJ7
          obtain ⟨Sd, hd7⟩ := hjd7.disk
          have q7 := HK2.out.quiet.crash_ a1 a2
          have hs8 := hb8.size
          clear hjd7 hS7
          go_wp2_with fail
          refine (crash_any _ Sd gd D a1 a2 hd7).mono ?_
          rintro e w9 ⟨g9, rfl, hd9, hb9⟩
          have hd10 := hd9.bound
          have hrows9 := Kd.N_below (Kd.N_bound hrows7) hb9
          have hb10 := hb8.trans (hb9.mono hs8)
          have hs9 := hb9.size
          clear hd7 hd9 hrows7
          go_wp2_with fail
          refine (open_quiet _ _ g9 _ 20000 (fs) (all) _ hd10 (fun k hk => hk.2) q7 (hid rfl) (hid HK2.out.flat) HK2.out.valid).mono ?_
          rintro e w11 ⟨g11, D11, rfl, hj11, hf11, q11⟩
          have hs11 := hf11.size
          have hj12 := (hj11.mono (S1 := fun k => w7.heap.size ≤ k) (fun k hk => by rcases hk with hk | hk; exact hk.1; omega)).bound
          have hrows11 := Kd.N_step (Kd.N_bound hrows9) (w1 := w11) fun k hk hl => hf11.block k hl (fun h => by have := h.1; have := hk.1.2; omega)
          have hJ12 : JL w.heap.size w11 g11 g9 _ (all) (all) false D11 := ⟨_, hj12, fun k hk => ⟨by have := hk.1; omega, hk.2⟩, Kd.N_mono hrows11 fun k hk => ⟨hk.1.1.1, fun h => by have := h.1; have := hk.1.2; omega⟩⟩
          have hb12 := hb10.trans (hf11.below (by omega) (fun k hk => by have := hk.1; omega))
          have HK3 : Hid (Known (k + 1) (all) (fs) D11) := hid ⟨HK2.out.flat, q11, HK2.out.valid, HK2.out.size, HK2.out.len, HK2.out.count⟩
          clear hj11 hf11 hj12 hrows11 hrows9 hd10 hb9 hb10 q7 q11 y7 HK2
          go_wp2_with fail
          refine (hJ12.holds HL.out hc6).mono ?_
          rintro e w13 ⟨rfl, hb13⟩
          have hJ13 := hJ12.move hb13
          have hb14 := hb12.trans (hb13.mono hb12.size)
          clear hJ12 hb13 hb12
          go_wp2
          go_roundw
          case rel => exact ⟨k + 1, g9, g11, _, _, D11, rfl, rfl, by go_num, by omega, by omega, hJ13, HK3, hb14⟩
          case measure => simp [intOf]; omega
        · go_wp2
          go_roundw
          case rel => exact ⟨k + 1, gd, gk, _, _, D, rfl, rfl, by go_num, by omega, by omega, hJ7, HK2, hb8⟩
          case measure => simp [intOf]; omega
      · have hvr := batch_vr hB hz
        obtain ⟨D3, e3, q3⟩ := HK.out.quiet.jappend_ok (F := frameP rs) (by have := batch_frame hB; have := HK.out.size; omega)
        have E3 := hid e3
        have HK2 : Hid (Known (k + 1) (all ++ rs) (fs ++ [rs]) D3) := hid (HK.out.more hB hz q3)
        clear e3 q3
        go_wp2_with fail
        refine (append_jd w3 S _ gk gd all rs (all ++ rs) D D3 0 false _ _ _ hj3 hFb (fun k hk => ⟨fun h => by have := (hS k h).2; omega, hk.2⟩) hcb hvr (hid E3.out.symm) (hid rfl) (by have := HK.out.count; omega)).mono ?_
        rintro e w4 ⟨rfl, hj4, hf4⟩
        have hs4 := hf4.size
        have hj5 := hj4.bound
        have hr4 := rows_after hr3 hf4
        have hF4 := Kd.F_step hFb (W1 := w4) fun k hk hl => hf4.block k hl (fun h => by have := (hS k h).2; omega)
        have hB4 := hB3.trans (hf4.below (by omega) (fun k hk => (hS k hk).1))
        have y4 := Fr.cell hf4 y3 (fun h => by have := (hS bo h).1; omega)
        have hnew : ∀ k, w4.heap.size ≤ k → (w.heap.size ≤ k ∧ ¬ (Ext S w3 k ∧ k < w4.heap.size)) := fun k hk => ⟨by omega, fun h => by have := h.2; omega⟩
        have hok4 : ∀ k, (wr.heap.size ≤ k ∧ k < w3.heap.size) → (w.heap.size ≤ k ∧ ¬ (Ext S w3 k ∧ k < w4.heap.size)) ∧ some k ≠ u11.ownBlock := fun k hk => ⟨⟨by omega, fun h => by
          rcases h.1 with h | h
          · have := (hS k h).2; omega
          · omega⟩, fun e => by have := hvlt k e.symm; omega⟩
        have hl9 : (all.length + rs.length) * 24 ≤ 140737488355328 := by have := HK.out.count; have := hB.1; omega
        clear hj4 hf4 hj3 hr3 hFb hB3 y3
        go_wp2_with (at_builtin; refine Kd.N_append_rows KB (w0 := w4) 0 rfl (.tmp 64) (.tmp 65) 55 30 (.slice none 0 0) 24 rfl Try.underlying55 info30 rfl (by decide) (by decide) u11 all rs Ab rs.length cb (fun k => w.heap.size ≤ k ∧ ¬ (Ext S w3 k ∧ k < w4.heap.size)) (fun k => wr.heap.size ≤ k ∧ k < w3.heap.size) rfl rfl hr4 hF4 hok4 hnew (Below.refl _ _) (Nat.zero_le _) hl9 ?_)
        intro v6 w6 hN6 _ hg6 _
        have hj7 := hj5.move (w1 := w6) hg6.size fun k hk hl => hg6.block k hl fun e => (hr4.1 k e.symm).2 hk
        have hb6 : Below w.heap.size w w6 := hB4.grown hg6 hB4.size fun k hk => (hr4.1 k hk).1
        have hJ6 : JL w.heap.size w6 gk gd v6 (all ++ rs) (all ++ rs) false D3 := ⟨_, hj7, fun k hk => ⟨by
          rcases hk.1 with h | h
          · exact (hS k h).1
          · omega, by have := hk.2; have := hg6.size; omega⟩, Kd.N_mono hN6 (fun k hk => ⟨hk.1, fun h => by have := hk.2 h.1; have := h.2; omega⟩)⟩
        have y6 := blk_y6 y4 hg6 (fun e => by have := (hr4.1 bo e).1; omega)
        clear hN6 hg6 hj7 hj5 hr4 hF4 hok4 hB4 y4 hvlt hnew
        have HL := hid (show ∀ r ∈ all ++ rs, r.length ≤ 100000 from HK2.out.len)
        have hc6 : (all ++ rs).length ≤ 1000000000 := by have := HK2.out.count; omega
        go_wp2_with fail
        refine (hJ6.holds HL.out hc6).mono ?_
        rintro e w7 ⟨rfl, hb7⟩
        have hJ7 := hJ6.move hb7
        have hb8 := hb6.trans (hb7.mono hb6.size)
        have y7 := pw_cell_below hb7 y6
        clear hJ6 hb7 hb6 y6
        go_wp2_with fail
        refine hJ7.dead.mono ?_
        rintro e w8 ⟨rfl, rfl⟩
        by_cases hq : x0 / 4 % 5 = 0
        · obtain ⟨S7, hjd7, hS7, hrows7⟩ := hJ7
          obtain ⟨Sd, hd7⟩ := hjd7.disk
          have q7 := HK2.out.quiet.crash_ a1 a2
          have hs8 := hb8.size
          clear hjd7 hS7
          go_wp2_with fail
          refine (crash_any _ Sd gd D3 a1 a2 hd7).mono ?_
          rintro e w9 ⟨g9, rfl, hd9, hb9⟩
          have hd10 := hd9.bound
          have hrows9 := Kd.N_below (Kd.N_bound hrows7) hb9
          have hb10 := hb8.trans (hb9.mono hs8)
          have hs9 := hb9.size
          clear hd7 hd9 hrows7
          go_wp2_with fail
          refine (open_quiet _ _ g9 _ 20000 (fs ++ [rs]) (all ++ rs) _ hd10 (fun k hk => hk.2) q7 (hid rfl) (hid HK2.out.flat) HK2.out.valid).mono ?_
          rintro e w11 ⟨g11, D11, rfl, hj11, hf11, q11⟩
          have hs11 := hf11.size
          have hj12 := (hj11.mono (S1 := fun k => w7.heap.size ≤ k) (fun k hk => by rcases hk with hk | hk; exact hk.1; omega)).bound
          have hrows11 := Kd.N_step (Kd.N_bound hrows9) (w1 := w11) fun k hk hl => hf11.block k hl (fun h => by have := h.1; have := hk.1.2; omega)
          have hJ12 : JL w.heap.size w11 g11 g9 _ (all ++ rs) (all ++ rs) false D11 := ⟨_, hj12, fun k hk => ⟨by have := hk.1; omega, hk.2⟩, Kd.N_mono hrows11 fun k hk => ⟨hk.1.1.1, fun h => by have := h.1; have := hk.1.2; omega⟩⟩
          have hb12 := hb10.trans (hf11.below (by omega) (fun k hk => by have := hk.1; omega))
          have HK3 : Hid (Known (k + 1) (all ++ rs) (fs ++ [rs]) D11) := hid ⟨HK2.out.flat, q11, HK2.out.valid, HK2.out.size, HK2.out.len, HK2.out.count⟩
          clear hj11 hf11 hj12 hrows11 hrows9 hd10 hb9 hb10 q7 q11 y7 HK2
          go_wp2_with fail
          refine (hJ12.holds HL.out hc6).mono ?_
          rintro e w13 ⟨rfl, hb13⟩
          have hJ13 := hJ12.move hb13
          have hb14 := hb12.trans (hb13.mono hb12.size)
          clear hJ12 hb13 hb12
          go_wp2
          go_roundw
          case rel => exact ⟨k + 1, g9, g11, _, _, D11, rfl, rfl, by go_num, by omega, by omega, hJ13, HK3, hb14⟩
          case measure => simp [intOf]; omega
        · go_wp2
          go_roundw
          case rel => exact ⟨k + 1, gd, gk, _, _, D3, rfl, rfl, by go_num, by omega, by omega, hJ7, HK2, hb8⟩
          case measure => simp [intOf]; omega
    · have hx : ¬ k < len0 ∨ (k < len0 ∧ ¬ k < 20) := by omega
      rcases hx with hx1 | ⟨hx1, hx2⟩
      all_goals
        go_wp2_with fail
        refine (awake_journal _).mono ?_
        rintro e w6 ⟨rfl, hb8⟩
        have hb9 := hb.trans (hb8.mono hb.size)
        go_wp2
        go_ret
        exact ⟨rfl, hb9⟩
end Go.Proofs.Ytnakolpaabpifaa.journalPlays
