/- The walk of the law JournalCrash. -/
import Derived.Test.YtnakolpaabpifaaJ21
import Derived.Test.YtnakolpaabpifaaA5
set_option linter.unusedVariables false
set_option linter.unusedSimpArgs false
namespace Go.Proofs.Ytnakolpaabpifaa.journalCrash
open Go.RowKit Go.Proofs.YtnakolpaabpifaaW.PrintWords Go.Proofs.YtnakolpaabpifaaW.PrintLast

/-- What the law knows of the records so far. -/
structure Known (k : Nat) (all : List (List Int)) (fs : List (List (List Int))) (D : DS) : Prop where
  flat : all = fs.flatten
  run : Run D fs
  valid : ∀ rs ∈ fs, VR rs
  size : (framesP fs).length ≤ k * 120
  len : ∀ r ∈ all, r.length ≤ 100000
  count : all.length ≤ k * 3

theorem blk_y6 {w w1 : World} {bo o : Nat} {v : Value} {u : Value} (h : w.cell? ⟨bo, o, none⟩ = some v) (hg : w.grownBy w1 u.ownBlock) (hne : u.ownBlock = some bo → False) : w1.cell? ⟨bo, o, none⟩ = some v :=
  (World.cell?_of_block (hg.block bo (World.block_lt_of_cell? w _ h) (fun e => hne e.symm))).trans h
theorem F_mono {w : World} {ok ok1 : Nat → Prop} {A : Option Addr} {n : Nat} {xs : List (List Int)} (h : Kd.F KB w ok A n xs) (hs : ∀ k, ok k → ok1 k) : Kd.F KB w ok1 A n xs := fun W' hW => h W' fun k hk hl => hW k (hs k hk) hl
theorem wf_i8 {n : Int} (h : (Lit.int .i8 n).wf = true) : -128 ≤ n ∧ n < 128 := by have := bounds_i8 h; omega
theorem N_emp (w : World) : Kd.N KB 30 (w.alloc (.cells #[] 30)) 0 (fun _ => True) (.slice (some ⟨w.heap.size, 0, none⟩) 0 0) [] :=
  Kd.R_N ⟨fun _ _ => trivial, [], World.ownsRow_lit (base := 0) (e := 30) (size := 1) w #[] 0 (Nat.zero_le _) (by decide) rfl, ⟨rfl, fun j y h => by simp at h⟩⟩
theorem F_none (w : World) (ok : Nat → Prop) : Kd.F KB w ok none ([] : List (List Int)).length [] := fun W' _ => ⟨rfl, by decide, fun h => absurd h (Nat.lt_irrefl _)⟩
theorem Known.same {k : Nat} {all : List (List Int)} {fs : List (List (List Int))} {D : DS} (h : Known k all fs D) : Known (k + 1) all fs D := ⟨h.flat, h.run, h.valid, by have := h.size; omega, h.len, by have := h.count; omega⟩
theorem batch_frame {rs : List (List Int)} (h : BatchOk rs) : (frameP rs).length ≤ 120 := by
  have h1 : rs.flatten.length ≤ 30 * rs.length := by
    have h2 := h.2
    clear h
    induction rs with
    | nil => simp
    | cons r rs ih =>
      have a := ih fun x hx => h2 x (List.mem_cons_of_mem _ hx)
      have b := (h2 r (by simp)).1
      rw [List.flatten_cons, List.length_append, List.length_cons]
      omega
  have h2 := h.1
  rw [frameP_length, bodyP_length]
  omega
theorem batch_vr {rs : List (List Int)} (h : BatchOk rs) (h0 : 0 < rs.length) : VR rs := ⟨h0, by have := h.1; omega, fun r hr => by have := (h.2 r hr).1; omega, fun r hr => (h.2 r hr).2⟩
theorem Known.more {k : Nat} {all rs : List (List Int)} {fs : List (List (List Int))} {D D3 : DS} (h : Known k all fs D) (hb : BatchOk rs) (h0 : 0 < rs.length) (q : Run D3 (fs ++ [rs])) : Known (k + 1) (all ++ rs) (fs ++ [rs]) D3 := by
  have hfr : framesP (fs ++ [rs]) = framesP fs ++ frameP rs := by unfold framesP; rw [List.flatMap_append]; simp
  refine ⟨by rw [List.flatten_append, ← h.flat]; simp, q, fun x hx => ?_, by rw [hfr, List.length_append]; have := batch_frame hb; have := h.size; omega, fun r hr => ?_, by rw [List.length_append]; have := hb.1; have := h.count; omega⟩
  · rcases List.mem_append.1 hx with hx | hx
    · exact h.valid x hx
    · rw [List.mem_singleton] at hx; subst hx; exact batch_vr hb h0
  · rcases List.mem_append.1 hr with hr | hr
    · exact h.len r hr
    · have := (hb.2 r hr).1; omega
/-- What the law knows behind its first loop. -/
structure Left (all last : List (List Int)) (fs : List (List (List Int))) (D : DS) : Prop where
  flat : all = fs.flatten
  pre : Pre D fs last
  valid : ∀ rs ∈ fs, VR rs
  len : ∀ r ∈ all, r.length ≤ 100000
  llen : ∀ r ∈ last, r.length ≤ 100000
  count : all.length ≤ 1000
  lcount : last.length ≤ 1000
theorem Known.left {k : Nat} {all : List (List Int)} {fs : List (List (List Int))} {D : DS} (h : Known k all fs D) (hk : k ≤ 16) : Left all [] fs D := ⟨h.flat, h.run.pre [], h.valid, h.len, by simp, by have := h.count; omega, by simp⟩
theorem Known.broke {k : Nat} {all rs : List (List Int)} {fs : List (List (List Int))} {D D3 : DS} (h : Known k all fs D) (hk : k ≤ 16) (hb : BatchOk rs) (hp : Pre D3 fs rs) : Left all rs fs D3 := ⟨h.flat, hp, h.valid, h.len, fun r hr => by have := (hb.2 r hr).1; omega, by have := h.count; omega, by have := hb.1; omega⟩

set_option maxRecDepth 100000 in
set_option maxHeartbeats 1600000 in
theorem walk (a0 : Option Addr) (len0 cap0 : Nat) (F : Nat → Nat → Int) (a1 : Int) (a2 : Option Addr) (len2 cap2 : Nat) (G : Nat → Nat → Int) (w : World) (w0 : IsArr .u8 3 w a0 len0 cap0 F) (w1 : (Lit.int .u8 a1).wf = true) (w2 : IsArr .i8 3 w a2 len2 cap2 G) :
    Calls Try.prog 12 #[.slice a0 len0 cap0, .int .u8 a1, .slice a2 len2 cap2] w fun e w' => e = .returned (.bool true) ∧ Below w.heap.size w w' := by
  have H0 := hid w0
  have H2 := hid w2
  have h1 := wf_u8 w1
  have hm0 : len0 ≤ 9223372036854775807 := by have := w0.1; have := w0.2.1; unfold maxLen at this; omega
  have hm2 : len2 ≤ 9223372036854775807 := by have := w2.1; have := w2.2.1; unfold maxLen at this; omega
  clear w0 w1 w2
  go_enter Try.func12, Try.ntmps12
  go_wp2_with fail
  refine (new_any _ 20000 (by decide) (by decide)).mono ?_
  rintro e w1 ⟨rfl, hd1, hb1⟩
  go_wp2_with fail
  refine (open_quiet w1 (fun k => k = w.heap.size) w.heap.size (DS.new 20000) 20000 [] [] [] hd1 (fun k hk => by subst hk; exact hd1.lt) (Quiet.new 20000) (hid rfl) (hid rfl) (by simp)).mono ?_
  rintro e w2 ⟨gj, D2, rfl, hj2, hf2, q2⟩
  have hb2 : Below w.heap.size w w2 := hb1.trans (hf2.below hb1.size (fun k hk => by omega))
  have hj3 : JD w2 (fun k => w.heap.size ≤ k ∧ k < w2.heap.size) gj w.heap.size [] false D2 := (hj2.mono (S1 := fun k => w.heap.size ≤ k) (fun k hk => by rcases hk with hk | hk; omega; have := hb1.size; omega)).bound
  clear hd1 hf2 hj2 hb1
  obtain ⟨Sj, Sd, k1, k2, k3, k4, k5⟩ := hj3
  go_wp2_with fail
  refine (cut_any _ Sd w.heap.size D2 _ k2).mono ?_
  rintro e w3 ⟨rfl, hd3, hf3⟩
  have hj3 : JD w3 (fun k => w.heap.size ≤ k ∧ k < w3.heap.size) gj w.heap.size [] false _ :=
    ⟨Sj, Sd, k1.fr hf3 k5, hd3, fun k hk => ⟨⟨(k3 k hk).1.1, by have := (k3 k hk).2; have := hf3.size; omega⟩, by have := (k3 k hk).2; have := hf3.size; omega⟩, fun k hk => ⟨⟨(k4 k hk).1.1, by have := (k4 k hk).2; have := hf3.size; omega⟩, by have := (k4 k hk).2; have := hf3.size; omega⟩, k5⟩
  have hb3 := hb2.trans (hf3.below hb2.size (fun k hk => (k4 k hk).1.1))
  have hJL := JL.start hj3
  have HR := hid ((Run.of_quiet (fs := []) q2).cut (a1 % 40))
  clear hd3 hf3 k1 k2 k3 k4 k5 hb2 hj3 q2
  generalize D2.cutAt (a1 % 40) = D3 at *
  go_wp2
  go_loopw [11, 12, 13, 14, 15] (fun v11 v12 v13 _ _ wr => ∃ (k : Nat) (all : List (List Int)) (fs : List (List (List Int))) (D : DS), v12 = .slice none 0 0 ∧ v13 = .int .i64 k ∧ k ≤ len0 ∧ k ≤ 16 ∧ JL w.heap.size wr gj w.heap.size v11 all all false D ∧ Hid (Known k all fs D) ∧ Below w.heap.size w wr) (fun _ _ v13 _ _ _ => 16 - (intOf v13).toNat)
  case atStart => exact ⟨0, [], [], D3, rfl, rfl, Nat.zero_le _, by decide, hJL, hid ⟨rfl, HR.out, by simp, by simp [framesP], by simp, by simp⟩, hb3⟩
  case round =>
    clear hJL HR hb3
    obtain ⟨k, all, fs, D, rfl, rfl, hk, hk2, hJ, HK, hb⟩ := hrel
    by_cases hlt : k < len0 ∧ k < 16
    · obtain ⟨hlt1, hlt2⟩ := hlt
      obtain ⟨bo, off, rfl, hbo, hcell⟩ := H0.out.2.2 (by omega)
      obtain ⟨c0, w0⟩ := hcell k hlt1 0 (by decide)
      obtain ⟨c1, w1'⟩ := hcell k hlt1 1 (by decide)
      obtain ⟨c2, w2'⟩ := hcell k hlt1 2 (by decide)
      have y0 : wr.cell? ⟨bo, off + k * 3, none⟩ = some (.int .u8 (F k 0)) := (hb.cell hbo).trans c0
      have y1 : wr.cell? ⟨bo, off + k * 3 + 1, none⟩ = some (.int .u8 (F k 1)) := (hb.cell hbo).trans c1
      have y2 : wr.cell? ⟨bo, off + k * 3 + 2, none⟩ = some (.int .u8 (F k 2)) := (hb.cell hbo).trans c2
      have r0 := wf_u8 w0
      have r1 := wf_u8 w1'
      have r2 := wf_u8 w2'
      clear c0 c1 c2 hcell w0 w1' w2'
      generalize F k 0 = x0 at *
      generalize F k 1 = x1 at *
      generalize F k 2 = x2 at *
      go_wp2_with fail
      refine (batch_any wr x0 x1 x2 r0 r1 r2).mono ?_
      rintro e w3 ⟨vb, rs, rfl, hNb, hB, hln, hb3⟩
      obtain ⟨Ab, cb, rfl⟩ := Kd.N_slice hNb
      have hFb := Kd.N_F (Kd.N_bound hNb)
      have hcb := (Kd.N_reads' hNb).2.1
      obtain ⟨S, hjd, hS, hrows⟩ := hJ
      have hvlt := Kd.N_lt hrows
      have hbase := hb.size
      have hs3 := hb3.size
      have hj3 := hjd.move hs3 fun k _ hl => hb3.block k hl
      have hr3 := Kd.N_below hrows hb3
      have hB3 : Below w.heap.size w w3 := hb.trans (hb3.mono hbase)
      clear hNb hjd hrows y0 y1 y2
      rcases Nat.eq_zero_or_pos rs.length with hz | hz
      · obtain rfl : rs = [] := List.eq_nil_of_length_eq_zero hz
        have hJ3 : JL w.heap.size w3 gj w.heap.size u11 all all false D := ⟨S, hj3, fun k hk => ⟨(hS k hk).1, by have := (hS k hk).2; omega⟩, hr3⟩
        have HK2 : Hid (Known (k + 1) all fs D) := hid HK.out.same
        clear hj3 hr3 hFb HK
        go_wp2
        go_roundw
        case rel => exact ⟨k + 1, all, fs, D, rfl, by go_num, by omega, by omega, hJ3, HK2, hB3⟩
        case measure => simp [intOf]; omega
      · have hvr := batch_vr hB hz
        obtain ⟨x, dd, D3, e3, hout⟩ := HK.out.run.jappend hvr (by have := batch_frame hB; have := HK.out.size; omega)
        have E3 := hid e3
        clear e3
        rcases hout with ⟨rfl, rfl, hrun⟩ | ⟨rfl, rfl, hpre⟩
        · have HK2 : Hid (Known (k + 1) (all ++ rs) (fs ++ [rs]) D3) := hid (HK.out.more hB hz hrun)
          clear hrun
          go_wp2_with fail
          refine (append_jd w3 S _ gj w.heap.size all rs (all ++ rs) D D3 0 false _ _ _ hj3 hFb (fun k hk => ⟨fun h => by have := (hS k h).2; omega, hk.2⟩) hcb hvr (hid E3.out.symm) (hid rfl) (by have := HK.out.count; omega)).mono ?_
          rintro e w4 ⟨rfl, hj4, hf4⟩
          have hs4 := hf4.size
          have hj5 := hj4.bound
          have hr4 := rows_after hr3 hf4
          have hF4 := Kd.F_step hFb (W1 := w4) fun k hk hl => hf4.block k hl (fun h => by have := (hS k h).2; omega)
          have hB4 := hB3.trans (hf4.below (by omega) (fun k hk => (hS k hk).1))
          have hnew : ∀ k, w4.heap.size ≤ k → (w.heap.size ≤ k ∧ ¬ (Ext S w3 k ∧ k < w4.heap.size)) := fun k hk => ⟨by omega, fun h => by have := h.2; omega⟩
          have hok4 : ∀ k, (wr.heap.size ≤ k ∧ k < w3.heap.size) → (w.heap.size ≤ k ∧ ¬ (Ext S w3 k ∧ k < w4.heap.size)) ∧ some k ≠ u11.ownBlock := fun k hk => ⟨⟨by omega, fun h => by
            rcases h.1 with h | h
            · have := (hS k h).2; omega
            · omega⟩, fun e => by have := hvlt k e.symm; omega⟩
          have hl9 : (all.length + rs.length) * 24 ≤ 140737488355328 := by have := HK.out.count; have := hB.1; omega
          clear hj4 hf4 hj3 hr3 hFb hB3
          go_wp2_with (at_builtin; refine Kd.N_append_rows KB (w0 := w4) 0 rfl (.tmp 62) (.tmp 63) 55 30 (.slice none 0 0) 24 rfl Try.underlying55 info30 rfl (by decide) (by decide) u11 all rs Ab rs.length cb (fun k => w.heap.size ≤ k ∧ ¬ (Ext S w3 k ∧ k < w4.heap.size)) (fun k => wr.heap.size ≤ k ∧ k < w3.heap.size) rfl rfl hr4 hF4 hok4 hnew (Below.refl _ _) (Nat.zero_le _) hl9 ?_)
          intro v6 w6 hN6 _ hg6 _
          have hj7 := hj5.move (w1 := w6) hg6.size fun k hk hl => hg6.block k hl fun e => (hr4.1 k e.symm).2 hk
          have hb6 : Below w.heap.size w w6 := hB4.grown hg6 hB4.size fun k hk => (hr4.1 k hk).1
          have hJ6 : JL w.heap.size w6 gj w.heap.size v6 (all ++ rs) (all ++ rs) false D3 := ⟨_, hj7, fun k hk => ⟨by
            rcases hk.1 with h | h
            · exact (hS k h).1
            · omega, by have := hk.2; have := hg6.size; omega⟩, Kd.N_mono hN6 (fun k hk => ⟨hk.1, fun h => by have := hk.2 h.1; have := h.2; omega⟩)⟩
          clear hN6 hg6 hj7 hj5 hr4 hF4 hok4 hB4 hvlt hnew HK
          go_wp2
          go_roundw
          case rel => exact ⟨k + 1, all ++ rs, fs ++ [rs], D3, rfl, by go_num, by omega, by omega, hJ6, HK2, hb6⟩
          case measure => simp [intOf]; omega
        · have HLf : Hid (Left all rs fs D3) := hid (HK.out.broke hk2 hB hpre)
          clear hpre
          go_wp2_with fail
          refine (append_jd w3 S _ gj w.heap.size all rs all D D3 42 true _ _ _ hj3 hFb (fun k hk => ⟨fun h => by have := (hS k h).2; omega, hk.2⟩) hcb hvr (hid E3.out.symm) (hid rfl) (by have := HK.out.count; omega)).mono ?_
          rintro e w4 ⟨rfl, hj4, hf4⟩
          have hs4 := hf4.size
          have hr4 := rows_after hr3 hf4
          have hF4 := Kd.F_step hFb (W1 := w4) fun k hk hl => hf4.block k hl (fun h => by have := (hS k h).2; omega)
          have hB4 := hB3.trans (hf4.below (by omega) (fun k hk => (hS k hk).1))
          obtain ⟨Sj, Sd, k1, k2, k3, k4, k5⟩ := hj4
          clear hf4 hj3 hr3 hFb hB3 HK
          go_wp2_with fail
          refine (dead_any _ _ _ _ _ _ k1).mono ?_
          rintro e w5 ⟨rfl, rfl⟩
          go_wp2_with fail
          refine (append_dead _ _ _ _ _ rs (Kd.F_now hF4) hcb hvr (.inr ⟨gj, Sj, all, true, some ⟨w.heap.size, 0, none⟩, rfl, k1, .inr ⟨⟨_, rfl⟩, rfl⟩⟩)).mono ?_
          rintro e wx ⟨rfl, hb5⟩
          have hbx : Below w.heap.size w wx := hB4.trans (hb5.mono hB4.size)
          have hdx := k2.move (w1 := wx) fun k _ hl => hb5.block k hl
          have hFl : Kd.F KB wx (fun k => k < wx.heap.size) Ab rs.length rs := F_mono (Kd.F_step hF4 (W1 := wx) fun k hk hl => hb5.block k hl) fun k hk => by have := hb5.size; omega
          have hFa0 := Kd.N_below hr4 hb5
          obtain ⟨Aa, ca, rfl⟩ := Kd.N_slice hFa0
          have hca := (Kd.N_reads' hFa0).2.1
          have hFa : Kd.F KB wx (fun k => k < wx.heap.size) Aa all.length all := F_mono (Kd.N_F (Kd.N_bound hFa0)) fun k hk => hk.2
          clear hFa0 hr4 hF4 k1 k2 k3 k4 k5 hb5 hB4 E3 hvlt
          have hdx0 := hdx.bound
          have HPM : Hid (Pre D3 fs rs ∨ Mess D3 fs rs) := hid (.inl HLf.out.pre)
          clear hdx
          go_wp2_with fail
          go_loopw [7, 16] (fun v7 v16 wr => ∃ (j g : Nat) (Sd : Nat → Prop) (D : DS), v7 = .pointer (some ⟨g, 0, none⟩) ∧ v16 = .int .i64 j ∧ j ≤ len2 ∧ j ≤ 4 ∧ DiskAt wr Sd g D ∧ Hid (Pre D fs rs ∨ Mess D fs rs) ∧ Below wx.heap.size wx wr) (fun _ v16 _ => 4 - (intOf v16).toNat)
          case atStart => exact ⟨0, _, _, _, rfl, rfl, Nat.zero_le _, by decide, hdx0, HPM, Below.refl _ _⟩
          case round =>
            clear hdx0 HPM
            obtain ⟨j, g, Sg, Dg, rfl, rfl, hj, hj4, hdg, HPM, hbg⟩ := hrel
            have hsx := hbx.size
            have hsg := hbg.size
            have hbw : Below w.heap.size w wr := hbx.trans (hbg.mono hsx)
            by_cases hlj : j < len2 ∧ j < 4
            · obtain ⟨hlj1, hlj2⟩ := hlj
              obtain ⟨bq, oq, rfl, hbq, hcell⟩ := H2.out.2.2 (by omega)
              obtain ⟨c0, w0⟩ := hcell j hlj1 0 (by decide)
              obtain ⟨c1, w1'⟩ := hcell j hlj1 1 (by decide)
              obtain ⟨c2, w2'⟩ := hcell j hlj1 2 (by decide)
              have y0 : wr.cell? ⟨bq, oq + j * 3, none⟩ = some (.int .i8 (G j 0)) := (hbw.cell hbq).trans c0
              have y1 : wr.cell? ⟨bq, oq + j * 3 + 1, none⟩ = some (.int .i8 (G j 1)) := (hbw.cell hbq).trans c1
              have y2 : wr.cell? ⟨bq, oq + j * 3 + 2, none⟩ = some (.int .i8 (G j 2)) := (hbw.cell hbq).trans c2
              have r0 := wf_i8 w0
              have r1 := wf_i8 w1'
              have r2 := wf_i8 w2'
              clear c0 c1 c2 hcell w0 w1' w2'
              generalize G j 0 = x0 at *
              generalize G j 1 = x1 at *
              generalize G j 2 = x2 at *
              have hdq : DiskAt wr.drew Sg g Dg := hdg.move fun _ _ _ => rfl
              have q0 := y0
              have q1 := y1
              have Q2 := hid y2
              clear y2
              go_wp2_with fail
              refine start_ (n := 15) (S := fun w' => w'.cell? ⟨bq, oq + j * 3, none⟩ = some (.int .i8 x0) ∧ w'.cell? ⟨bq, oq + j * 3 + 1, none⟩ = some (.int .i8 x1)) (ds := []) #[false, false, false, false, false, false, false, false, false, false, false, false, false, false, false] (by kernel_rfl) rfl rfl ⟨q0, q1⟩ (fun hHeld => ?_)
              refine pure_ (i := 0) (N := some 89) (v := ?_) (a' := ?_) #[true, false, false, false, false, false, false, false, false, false, false, false, false, false, false] rfl rfl (by kernel_rfl) (fun _ _ _ h => h) (Or.inl ⟨by rfl, ?_⟩) ?_ ?_
              rotate_left
              · intro w'
                go_simp
                with_reducible rfl
              rotate_left
              · simp only [Act.put, List.setIfInBounds_toArray, List.set_cons_zero, List.set_cons_succ, i64_w, i32_w]
                rfl
              refine pure_ (i := 1) (N := some 90) (v := ?_) (a' := ?_) #[true, true, false, false, false, false, false, false, false, false, false, false, false, false, false] rfl rfl (by kernel_rfl) (fun _ _ _ h => h) (Or.inl ⟨by rfl, ?_⟩) ?_ ?_
              rotate_left
              · intro w'
                go_simp
                with_reducible rfl
              rotate_left
              · simp only [Act.put, List.setIfInBounds_toArray, List.set_cons_zero, List.set_cons_succ, i64_w, i32_w]
                rfl
              refine pure_ (i := 2) (N := some 91) (v := ?_) (a' := ?_) #[true, true, true, false, false, false, false, false, false, false, false, false, false, false, false] rfl rfl (by kernel_rfl) (fun _ _ _ h => h) (Or.inl ⟨by rfl, ?_⟩) ?_ ?_
              rotate_left
              · intro w'
                go_simp
                with_reducible rfl
              rotate_left
              · simp only [Act.put, List.setIfInBounds_toArray, List.set_cons_zero, List.set_cons_succ, i64_w, i32_w]
                rfl
              refine pure_ (i := 3) (N := some 92) (v := ?_) (a' := ?_) #[true, true, true, true, false, false, false, false, false, false, false, false, false, false, false] rfl rfl (by kernel_rfl) (fun _ _ _ h => h) (Or.inl ⟨by rfl, ?_⟩) ?_ ?_
              rotate_left
              · intro w'
                go_simp
                with_reducible rfl
              rotate_left
              · simp only [Act.put, List.setIfInBounds_toArray, List.set_cons_zero, List.set_cons_succ, i64_w, i32_w]
                rfl
              refine pure_ (i := 4) (N := some 93) (v := ?_) (a' := ?_) #[true, true, true, true, true, false, false, false, false, false, false, false, false, false, false] rfl rfl (by kernel_rfl) (fun _ _ _ h => h) (Or.inl ⟨by rfl, ?_⟩) ?_ ?_
              rotate_left
              · intro w'
                go_simp
                with_reducible rfl
              rotate_left
              · simp only [Act.put, List.setIfInBounds_toArray, List.set_cons_zero, List.set_cons_succ, i64_w, i32_w]
                rfl
              refine pure_ (i := 7) (N := some 96) (v := ?_) (a' := ?_) #[true, true, true, true, true, false, false, true, false, false, false, false, false, false, false] rfl rfl (by kernel_rfl) (fun _ _ _ h => h) (Or.inl ⟨by rfl, ?_⟩) ?_ ?_
              rotate_left
              · intro w'
                go_simp
                with_reducible rfl
              rotate_left
              · simp only [Act.put, List.setIfInBounds_toArray, List.set_cons_zero, List.set_cons_succ, i64_w, i32_w]
                rfl
              refine pure_ (i := 8) (N := some 97) (v := ?_) (a' := ?_) #[true, true, true, true, true, false, false, true, true, false, false, false, false, false, false] rfl rfl (by kernel_rfl) (fun _ _ _ h => h) (Or.inl ⟨by rfl, ?_⟩) ?_ ?_
              rotate_left
              · intro w'
                go_simp
                with_reducible rfl
              rotate_left
              · simp only [Act.put, List.setIfInBounds_toArray, List.set_cons_zero, List.set_cons_succ, i64_w, i32_w]
                rfl
              refine pure_ (i := 9) (N := some 98) (v := ?_) (a' := ?_) #[true, true, true, true, true, false, false, true, true, true, false, false, false, false, false] rfl rfl (by kernel_rfl) (fun _ _ _ h => h) (Or.inl ⟨by rfl, ?_⟩) ?_ ?_
              rotate_left
              · intro w'
                go_simp
                with_reducible rfl
              rotate_left
              · simp only [Act.put, List.setIfInBounds_toArray, List.set_cons_zero, List.set_cons_succ, i64_w, i32_w]
                rfl
              refine pure_ (i := 10) (N := some 99) (v := ?_) (a' := ?_) #[true, true, true, true, true, false, false, true, true, true, true, false, false, false, false] rfl rfl (by kernel_rfl) (fun _ _ _ h => h) (Or.inl ⟨by rfl, ?_⟩) ?_ ?_
              rotate_left
              · intro w'
                go_simp
                with_reducible rfl
              rotate_left
              · simp only [Act.put, List.setIfInBounds_toArray, List.set_cons_zero, List.set_cons_succ, i64_w, i32_w]
                rfl
              refine take_ (i := 5) (N := some 94) (v := ?_) (a' := ?_) #[true, true, true, true, true, true, false, true, true, true, true, false, false, false, false] rfl rfl (by kernel_rfl) (fun _ _ _ h => h) (Or.inl ⟨by rfl, ?_⟩) hHeld ?_ ?_
              rotate_left
              · rintro w' ⟨s0, s1⟩
                go_simp
                with_reducible rfl
              rotate_left
              · simp only [Act.put, List.setIfInBounds_toArray, List.set_cons_zero, List.set_cons_succ, i64_w, i32_w]
                rfl
              refine pure_ (i := 6) (N := some 95) (v := ?_) (a' := ?_) #[true, true, true, true, true, true, true, true, true, true, true, false, false, false, false] rfl rfl (by kernel_rfl) (fun _ _ _ h => h) (Or.inl ⟨by rfl, ?_⟩) ?_ ?_
              rotate_left
              · intro w'
                go_simp
                with_reducible rfl
              rotate_left
              · simp only [Act.put, List.setIfInBounds_toArray, List.set_cons_zero, List.set_cons_succ, i64_w, i32_w]
                rfl
              refine take_ (i := 11) (N := some 100) (v := ?_) (a' := ?_) #[true, true, true, true, true, true, true, true, true, true, true, true, false, false, false] rfl rfl (by kernel_rfl) (fun _ _ _ h => h) (Or.inl ⟨by rfl, ?_⟩) hHeld ?_ ?_
              rotate_left
              · rintro w' ⟨s0, s1⟩
                go_simp
                with_reducible rfl
              rotate_left
              · simp only [Act.put, List.setIfInBounds_toArray, List.set_cons_zero, List.set_cons_succ, i64_w, i32_w]
                rfl
              refine pure_ (i := 12) (N := some 101) (v := ?_) (a' := ?_) #[true, true, true, true, true, true, true, true, true, true, true, true, true, false, false] rfl rfl (by kernel_rfl) (fun _ _ _ h => h) (Or.inl ⟨by rfl, ?_⟩) ?_ ?_
              rotate_left
              · intro w'
                go_simp
                with_reducible rfl
              rotate_left
              · simp only [Act.put, List.setIfInBounds_toArray, List.set_cons_zero, List.set_cons_succ, i64_w, i32_w]
                rfl
              refine one_ (i := 13) (N := some 102) #[true, true, true, true, true, true, true, true, true, true, true, true, true, true, false] rfl rfl (by kernel_rfl) (by decide) (fun K hK => ?_)
              refine goes_ Try.func18 (by kernel_rfl) rfl #[Value.pointer (some ⟨g, 0, none⟩), Value.int .i64 (wrap64 x0), Value.int .i64 (wrap64 x1)] (by rfl) rfl rfl (by simp only [List.map_toArray, List.map_cons, List.map_nil]; rfl) ?_
              with_reducible refine (crash_any _ Sg g Dg (wrap64 x0) (wrap64 x1) hdq).mono ?_
              rintro e w6 ⟨g1, rfl, hd1, hb1⟩
              refine ⟨_, rfl, ?_⟩
              have y0 := pw_cell_below hb1 q0
              have y1 := pw_cell_below hb1 q1
              refine hK.out _ _ ⟨y0, y1⟩ (fun hHeld => ?_)
              clear hK K
              refine norm_ (a' := ?_) ?_ ?_
              rotate_left
              · show Act.put _ (some 102) _ = _
                simp only [Act.put, List.setIfInBounds_toArray, List.set_cons_zero, List.set_cons_succ, i64_w, i32_w]
                rfl
              refine pure_ (i := 14) (N := some 7) (v := ?_) (a' := ?_) #[true, true, true, true, true, true, true, true, true, true, true, true, true, true, true] rfl rfl (by kernel_rfl) (fun _ _ _ h => h) (Or.inl ⟨by rfl, ?_⟩) ?_ ?_
              rotate_left
              · intro w'
                go_simp
                with_reducible rfl
              rotate_left
              · simp only [Act.put, List.setIfInBounds_toArray, List.set_cons_zero, List.set_cons_succ, i64_w, i32_w]
                rfl
              refine done_ (by kernel_rfl) ?_
              have hm6 : Mess (Dg.crash (wrap64 x0) (wrap64 x1)) fs rs := by
                rcases HPM.out with h | h
                · exact h.crash hdg.ok _ _
                · exact h.crash hdg.ok _ _
              have hd6 := hd1.bound
              have y2 := pw_cell_below hb1 (show wr.drew.cell? ⟨bq, oq + j * 3 + 2, none⟩ = some (.int .i8 x2) from Q2.out)
              have hb1' : Below wr.heap.size wr w6 := ⟨hb1.os, hb1.tape, hb1.output, hb1.size, hb1.block⟩
              have hs6 : wr.heap.size ≤ w6.heap.size := hb1'.size
              have hb6 : Below wx.heap.size wx w6 := hbg.trans (hb1'.mono hsg)
              clear hd1 hb1 hb1' HPM hdg hdq q0 q1 Q2 y0 y1 hHeld hbg hbw
              generalize Dg.crash (wrap64 x0) (wrap64 x1) = D6 at *
              go_wp2_with fail
              refine (cut_any w6 _ g1 D6 _ hd6).mono ?_
              rintro e w7 ⟨rfl, hd7, hf7⟩
              generalize hD7 : D6.cutAt _ = D7 at hd7
              have hm7 : Mess D7 fs rs := by rw [← hD7]; exact hm6.cut _
              have hs7 := hf7.size
              have hb7 : Below wx.heap.size wx w7 := hb6.trans (hf7.below (by omega) (fun k hk => by have := hk.1; exact Nat.le_trans hsg this))
              clear hD7 hm6 hd6 hf7 hb6 y2
              go_wp2_with fail
              refine (open_mess w7 _ g1 D7 fs rs hd7 (fun k hk => by have := hk.2; omega) hm7 HLf.out.valid).mono ?_
              rintro e w8 ⟨fs', x, D8, -, hp, hm8, -⟩
              obtain ⟨p, rfl⟩ := hp.tuple
              have ho8 := hp.own hb7 (by omega) (fun k hk => by have := hk.1; exact Nat.le_trans hsg this)
              have ho9 := ho8.at_
              have hb8 := ho8.below
              have HM8 : Hid (Pre D8 fs rs ∨ Mess D8 fs rs) := hid (.inr hm8)
              clear hp hm8 ho8 hm7 hd7 hb7
              go_wp2
              go_roundw
              case rel => exact ⟨j + 1, g1, _, D8, rfl, by go_num, by omega, by omega, ho9, HM8, hb8⟩
              case measure => simp [intOf]; omega
            · have hx : ¬ j < len2 ∨ (j < len2 ∧ ¬ j < 4) := by omega
              rcases hx with hx1 | ⟨hx1, hx2⟩
              all_goals
                go_wp2_with fail
                refine (crash_any wr Sg g Dg _ _ hdg).mono ?_
                rintro e w6 ⟨g1, rfl, hd1, hb1⟩
                generalize hD6 : Dg.crash _ _ = D6 at hd1
                have hm6 : Mess D6 fs rs := by
                  rw [← hD6]
                  rcases HPM.out with h | h
                  · exact h.crash hdg.ok _ _
                  · exact h.crash hdg.ok _ _
                have hc6 : D6.cut = false := by rw [← hD6]; rfl
                have ho6 : D6.off = false := by rw [← hD6]; rfl
                have hd6 := hd1.bound
                have hs6 := hb1.size
                have hb6 : Below wx.heap.size wx w6 := hbg.trans (hb1.mono hsg)
                clear hD6 hd1 hb1 HPM hdg hbg
                have HC6 := hid hc6
                have HO6 := hid ho6
                clear hc6 ho6
                go_wp2_with fail
                refine (open_mess w6 _ g1 D6 fs rs hd6 (fun k hk => hk.2) hm6 HLf.out.valid).mono ?_
                rintro e w7 ⟨fs', x, D7, hfs, hp, -, hq⟩
                obtain ⟨rfl, -⟩ := hq HC6.out HO6.out
                obtain ⟨hf7, hp⟩ := hp
                have hp2 := hp.resolve_left (fun h => absurd rfl h.1)
                obtain ⟨-, g7, rfl, hj7⟩ := hp2
                obtain ⟨Sj7, hj7⟩ := hj7.jour
                have hb7 : Below wx.heap.size wx w7 := hb6.trans (hf7.below (by omega) (fun k hk => by have := hk.1; omega))
                have hs7 := hf7.size
                clear hq hp hm6 hd6 hb6 hf7
                go_wp2_with fail
                refine (awake_journal _).mono ?_
                rintro e w8 ⟨rfl, hb8⟩
                have hj8 := hj7.move (w1 := w8) fun k _ hl => hb8.block k hl
                have hb9 : Below wx.heap.size wx w8 := hb7.trans (hb8.mono (by omega))
                have hb10 : Below w.heap.size w w8 := hbx.trans (hb9.mono hsx)
                have hFa8 := Kd.F_step hFa (W1 := w8) fun k hk hl => hb9.block k hk
                have hFl8 := Kd.F_step hFl (W1 := w8) fun k hk hl => hb9.block k hk
                have hs8 := hb8.size
                clear hb8 hb7 hj7 hbw hFa hFl hbx
                rcases hfs with rfl | ⟨hvl, rfl⟩
                · rw [← HLf.out.flat] at hj8
                  go_wp2_with fail
                  refine (holds_any _ Sj7 g7 _ all false Aa _ ca hj8 (Kd.F_now hFa8) hca HLf.out.len (by have := HLf.out.count; omega)).mono ?_
                  rintro e w9 ⟨rfl, hb11⟩
                  have hb12 := hb10.trans (hb11.mono hb10.size)
                  clear hj8 hFa8 hFl8 hb11 hb10
                  go_wp2
                  go_ret
                  exact ⟨rfl, hb12⟩
                · have hfl : (fs ++ [rs]).flatten = all ++ rs := by rw [List.flatten_append, ← HLf.out.flat, List.flatten_singleton]
                  rw [hfl] at hj8
                  have hsx8 : wx.heap.size ≤ w8.heap.size := by omega
                  have hbA : Below w8.heap.size w8 (w8.alloc (.cells #[] 30)) := (Below.refl _ _).alloc (Nat.le_refl _) _
                  have hN0 := N_emp w8
                  have hFaA := Kd.F_step hFa8 (W1 := w8.alloc (.cells #[] 30)) fun k hk hl => hbA.block k hl
                  have hFlA := Kd.F_step hFl8 (W1 := w8.alloc (.cells #[] 30)) fun k hk hl => hbA.block k hl
                  have hjA := (hj8.bound).move (w1 := w8.alloc (.cells #[] 30)) fun k hk _ => hbA.block k hk.2
                  have hbB : Below w.heap.size w (w8.alloc (.cells #[] 30)) := hb10.trans (hbA.mono hb10.size)
                  have hsA : (w8.alloc (.cells #[] 30)).heap.size = w8.heap.size + 1 := by simp
                  have hc1 := HLf.out.count
                  have hc2 := HLf.out.lcount
                  clear hFa8 hFl8 hbA hb10
                  go_wp2_with fail
                  refine (holds_not _ Sj7 g7 _ (all ++ rs) false ((all ++ rs).length : Nat) Aa _ ca hj8 (hid rfl) (by rw [List.length_append]; omega)).mono ?_
                  rintro e w9 ⟨rfl, rfl⟩
                  go_wp2_with (at_builtin; refine wpList_step (fun K9 hK9 => ?_); refine Kd.N_append_rows_step KB (w0 := w8.alloc (.cells #[] 30)) 0 (by rfl) (.tmp 135) (.tmp 136) 55 30 (.slice none 0 0) 24 rfl Try.underlying55 info30 rfl (by decide) (by decide) (.slice (some ⟨w8.heap.size, 0, none⟩) 0 0) [] all Aa all.length ca (fun _ => True) (fun k => k < wx.heap.size) rfl rfl hN0 hFaA (fun k hk => ⟨trivial, fun e => by simp [Value.ownBlock] at e; omega⟩) (fun _ _ => trivial) (Below.refl _ _) (Nat.zero_le _) (by simp; omega) ?_)
                  intro v1 w10 hN1 _ hg1 hat1
                  refine hK9 _ _ ?_
                  clear hK9
                  have hw8 : ∀ k, k < w8.heap.size → some k ≠ (Value.slice (some ⟨w8.heap.size, 0, none⟩) 0 0).ownBlock := fun k hk e => by simp [Value.ownBlock] at e; omega
                  have hs10 := hg1.size
                  have hFlB := Kd.F_step hFlA (W1 := w10) fun k hk hl => hg1.block k hl (hw8 k (by omega))
                  have hjB := hjA.move (w1 := w10) fun k hk hl => hg1.block k hl (hw8 k hk.2)
                  have hbC : Below w.heap.size w w10 := hbB.grown hg1 (by omega) fun k hk => by simp [Value.ownBlock] at hk; omega
                  have hv1 : ∀ k, k < w8.heap.size → some k ≠ v1.ownBlock := fun k hk e => by
                    rcases hat1 with h | ⟨b, h, hb⟩
                    · rw [h] at e; exact hw8 k hk e
                    · rw [h] at e; injection e with e; omega
                  have hv2 : ∀ k, v1.ownBlock = some k → w8.heap.size ≤ k := fun k hk => Nat.le_of_not_lt fun h => hv1 k h hk.symm
                  clear hg1 hat1 hjA hFlA hFaA hN0 hbB hj8
                  go_wp2_with (at_builtin; refine wpList_step (fun K9 hK9 => ?_); refine Kd.N_append_rows_step KB (w0 := w10) 0 (by rfl) (.tmp 137) (.tmp 138) 55 30 (.slice none 0 0) 24 rfl Try.underlying55 info30 rfl (by decide) (by decide) v1 all rs Ab rs.length cb (fun _ => True) (fun k => k < wx.heap.size) rfl rfl hN1 hFlB (fun k hk => ⟨trivial, hv1 k (by omega)⟩) (fun _ _ => trivial) (Below.refl _ _) (Nat.zero_le _) (by omega) ?_)
                  intro v2 w11 hN2 _ hg2 _
                  refine hK9 _ _ ?_
                  clear hK9
                  have hjC := hjB.move (w1 := w11) fun k hk hl => hg2.block k hl (hv1 k hk.2)
                  have hbD : Below w.heap.size w w11 := hbC.grown hg2 (by omega) fun k hk => by have := hv2 k hk; omega
                  obtain ⟨A2, c2, rfl⟩ := Kd.N_slice hN2
                  have hr2 := Kd.N_reads' hN2
                  have hm2 : ∀ r ∈ all ++ rs, r.length ≤ 100000 := fun r hr => by
                    rcases List.mem_append.1 hr with h | h
                    · exact HLf.out.len r h
                    · exact HLf.out.llen r h
                  have hl2 : (all ++ rs).length ≤ 1000000000 := by rw [List.length_append]; omega
                  generalize all ++ rs = both at *
                  clear hN2 hg2 hjB hFlB hN1 hbC hfl
                  go_wp2_with fail
                  refine (holds_any _ _ g7 _ both false A2 _ c2 hjC hr2.2.2 hr2.2.1 hm2 hl2).mono ?_
                  rintro e w12 ⟨rfl, hb12⟩
                  have hbE := hbD.trans (hb12.mono hbD.size)
                  clear hjC hb12 hbD
                  go_wp2
                  go_ret
                  exact ⟨rfl, hbE⟩
    · have hx : ¬ k < len0 ∨ (k < len0 ∧ ¬ k < 16) := by omega
      have HLf : Hid (Left all [] fs D) := hid (HK.out.left hk2)
      obtain ⟨S, hjd, hS, hrows⟩ := hJ
      obtain ⟨Sd, hdx⟩ := hjd.disk
      obtain ⟨wx, hwx⟩ : ∃ wx, wx = wr := ⟨_, rfl⟩
      subst hwx
      have hbx := hb
      obtain ⟨Aa, ca, rfl⟩ := Kd.N_slice hrows
      have hca := (Kd.N_reads' hrows).2.1
      have hFa : Kd.F KB wx (fun k => k < wx.heap.size) Aa all.length all := F_mono (Kd.N_F (Kd.N_bound hrows)) fun k hk => hk.2
      have hFl : Kd.F KB wx (fun k => k < wx.heap.size) none ([] : List (List Int)).length [] := F_none _ _
      clear hrows hjd hb HK
      rcases hx with hx1 | ⟨hx1, hx2⟩
      all_goals
        have hdx0 := hdx.bound
        have HPM : Hid (Pre D fs ([] : List (List Int)) ∨ Mess D fs ([] : List (List Int))) := hid (.inl HLf.out.pre)
        clear hdx
        go_wp2_with fail
        go_loopw [7, 16] (fun v7 v16 wr => ∃ (j g : Nat) (Sd : Nat → Prop) (D : DS), v7 = .pointer (some ⟨g, 0, none⟩) ∧ v16 = .int .i64 j ∧ j ≤ len2 ∧ j ≤ 4 ∧ DiskAt wr Sd g D ∧ Hid (Pre D fs ([] : List (List Int)) ∨ Mess D fs ([] : List (List Int))) ∧ Below wx.heap.size wx wr) (fun _ v16 _ => 4 - (intOf v16).toNat)
        case atStart => exact ⟨0, _, _, _, rfl, rfl, Nat.zero_le _, by decide, hdx0, HPM, Below.refl _ _⟩
        case round =>
          clear hdx0 HPM
          obtain ⟨j, g, Sg, Dg, rfl, rfl, hj, hj4, hdg, HPM, hbg⟩ := hrel
          have hsx := hbx.size
          have hsg := hbg.size
          have hbw : Below w.heap.size w wr := hbx.trans (hbg.mono hsx)
          by_cases hlj : j < len2 ∧ j < 4
          · obtain ⟨hlj1, hlj2⟩ := hlj
            obtain ⟨bq, oq, rfl, hbq, hcell⟩ := H2.out.2.2 (by omega)
            obtain ⟨c0, w0⟩ := hcell j hlj1 0 (by decide)
            obtain ⟨c1, w1'⟩ := hcell j hlj1 1 (by decide)
            obtain ⟨c2, w2'⟩ := hcell j hlj1 2 (by decide)
            have y0 : wr.cell? ⟨bq, oq + j * 3, none⟩ = some (.int .i8 (G j 0)) := (hbw.cell hbq).trans c0
            have y1 : wr.cell? ⟨bq, oq + j * 3 + 1, none⟩ = some (.int .i8 (G j 1)) := (hbw.cell hbq).trans c1
            have y2 : wr.cell? ⟨bq, oq + j * 3 + 2, none⟩ = some (.int .i8 (G j 2)) := (hbw.cell hbq).trans c2
            have r0 := wf_i8 w0
            have r1 := wf_i8 w1'
            have r2 := wf_i8 w2'
            clear c0 c1 c2 hcell w0 w1' w2'
            generalize G j 0 = x0 at *
            generalize G j 1 = x1 at *
            generalize G j 2 = x2 at *
            have hdq : DiskAt wr.drew Sg g Dg := hdg.move fun _ _ _ => rfl
            have q0 := y0
            have q1 := y1
            have Q2 := hid y2
            clear y2
            go_wp2_with fail
            refine start_ (n := 15) (S := fun w' => w'.cell? ⟨bq, oq + j * 3, none⟩ = some (.int .i8 x0) ∧ w'.cell? ⟨bq, oq + j * 3 + 1, none⟩ = some (.int .i8 x1)) (ds := []) #[false, false, false, false, false, false, false, false, false, false, false, false, false, false, false] (by kernel_rfl) rfl rfl ⟨q0, q1⟩ (fun hHeld => ?_)
            refine pure_ (i := 0) (N := some 89) (v := ?_) (a' := ?_) #[true, false, false, false, false, false, false, false, false, false, false, false, false, false, false] rfl rfl (by kernel_rfl) (fun _ _ _ h => h) (Or.inl ⟨by rfl, ?_⟩) ?_ ?_
            rotate_left
            · intro w'
              go_simp
              with_reducible rfl
            rotate_left
            · simp only [Act.put, List.setIfInBounds_toArray, List.set_cons_zero, List.set_cons_succ, i64_w, i32_w]
              rfl
            refine pure_ (i := 1) (N := some 90) (v := ?_) (a' := ?_) #[true, true, false, false, false, false, false, false, false, false, false, false, false, false, false] rfl rfl (by kernel_rfl) (fun _ _ _ h => h) (Or.inl ⟨by rfl, ?_⟩) ?_ ?_
            rotate_left
            · intro w'
              go_simp
              with_reducible rfl
            rotate_left
            · simp only [Act.put, List.setIfInBounds_toArray, List.set_cons_zero, List.set_cons_succ, i64_w, i32_w]
              rfl
            refine pure_ (i := 2) (N := some 91) (v := ?_) (a' := ?_) #[true, true, true, false, false, false, false, false, false, false, false, false, false, false, false] rfl rfl (by kernel_rfl) (fun _ _ _ h => h) (Or.inl ⟨by rfl, ?_⟩) ?_ ?_
            rotate_left
            · intro w'
              go_simp
              with_reducible rfl
            rotate_left
            · simp only [Act.put, List.setIfInBounds_toArray, List.set_cons_zero, List.set_cons_succ, i64_w, i32_w]
              rfl
            refine pure_ (i := 3) (N := some 92) (v := ?_) (a' := ?_) #[true, true, true, true, false, false, false, false, false, false, false, false, false, false, false] rfl rfl (by kernel_rfl) (fun _ _ _ h => h) (Or.inl ⟨by rfl, ?_⟩) ?_ ?_
            rotate_left
            · intro w'
              go_simp
              with_reducible rfl
            rotate_left
            · simp only [Act.put, List.setIfInBounds_toArray, List.set_cons_zero, List.set_cons_succ, i64_w, i32_w]
              rfl
            refine pure_ (i := 4) (N := some 93) (v := ?_) (a' := ?_) #[true, true, true, true, true, false, false, false, false, false, false, false, false, false, false] rfl rfl (by kernel_rfl) (fun _ _ _ h => h) (Or.inl ⟨by rfl, ?_⟩) ?_ ?_
            rotate_left
            · intro w'
              go_simp
              with_reducible rfl
            rotate_left
            · simp only [Act.put, List.setIfInBounds_toArray, List.set_cons_zero, List.set_cons_succ, i64_w, i32_w]
              rfl
            refine pure_ (i := 7) (N := some 96) (v := ?_) (a' := ?_) #[true, true, true, true, true, false, false, true, false, false, false, false, false, false, false] rfl rfl (by kernel_rfl) (fun _ _ _ h => h) (Or.inl ⟨by rfl, ?_⟩) ?_ ?_
            rotate_left
            · intro w'
              go_simp
              with_reducible rfl
            rotate_left
            · simp only [Act.put, List.setIfInBounds_toArray, List.set_cons_zero, List.set_cons_succ, i64_w, i32_w]
              rfl
            refine pure_ (i := 8) (N := some 97) (v := ?_) (a' := ?_) #[true, true, true, true, true, false, false, true, true, false, false, false, false, false, false] rfl rfl (by kernel_rfl) (fun _ _ _ h => h) (Or.inl ⟨by rfl, ?_⟩) ?_ ?_
            rotate_left
            · intro w'
              go_simp
              with_reducible rfl
            rotate_left
            · simp only [Act.put, List.setIfInBounds_toArray, List.set_cons_zero, List.set_cons_succ, i64_w, i32_w]
              rfl
            refine pure_ (i := 9) (N := some 98) (v := ?_) (a' := ?_) #[true, true, true, true, true, false, false, true, true, true, false, false, false, false, false] rfl rfl (by kernel_rfl) (fun _ _ _ h => h) (Or.inl ⟨by rfl, ?_⟩) ?_ ?_
            rotate_left
            · intro w'
              go_simp
              with_reducible rfl
            rotate_left
            · simp only [Act.put, List.setIfInBounds_toArray, List.set_cons_zero, List.set_cons_succ, i64_w, i32_w]
              rfl
            refine pure_ (i := 10) (N := some 99) (v := ?_) (a' := ?_) #[true, true, true, true, true, false, false, true, true, true, true, false, false, false, false] rfl rfl (by kernel_rfl) (fun _ _ _ h => h) (Or.inl ⟨by rfl, ?_⟩) ?_ ?_
            rotate_left
            · intro w'
              go_simp
              with_reducible rfl
            rotate_left
            · simp only [Act.put, List.setIfInBounds_toArray, List.set_cons_zero, List.set_cons_succ, i64_w, i32_w]
              rfl
            refine take_ (i := 5) (N := some 94) (v := ?_) (a' := ?_) #[true, true, true, true, true, true, false, true, true, true, true, false, false, false, false] rfl rfl (by kernel_rfl) (fun _ _ _ h => h) (Or.inl ⟨by rfl, ?_⟩) hHeld ?_ ?_
            rotate_left
            · rintro w' ⟨s0, s1⟩
              go_simp
              with_reducible rfl
            rotate_left
            · simp only [Act.put, List.setIfInBounds_toArray, List.set_cons_zero, List.set_cons_succ, i64_w, i32_w]
              rfl
            refine pure_ (i := 6) (N := some 95) (v := ?_) (a' := ?_) #[true, true, true, true, true, true, true, true, true, true, true, false, false, false, false] rfl rfl (by kernel_rfl) (fun _ _ _ h => h) (Or.inl ⟨by rfl, ?_⟩) ?_ ?_
            rotate_left
            · intro w'
              go_simp
              with_reducible rfl
            rotate_left
            · simp only [Act.put, List.setIfInBounds_toArray, List.set_cons_zero, List.set_cons_succ, i64_w, i32_w]
              rfl
            refine take_ (i := 11) (N := some 100) (v := ?_) (a' := ?_) #[true, true, true, true, true, true, true, true, true, true, true, true, false, false, false] rfl rfl (by kernel_rfl) (fun _ _ _ h => h) (Or.inl ⟨by rfl, ?_⟩) hHeld ?_ ?_
            rotate_left
            · rintro w' ⟨s0, s1⟩
              go_simp
              with_reducible rfl
            rotate_left
            · simp only [Act.put, List.setIfInBounds_toArray, List.set_cons_zero, List.set_cons_succ, i64_w, i32_w]
              rfl
            refine pure_ (i := 12) (N := some 101) (v := ?_) (a' := ?_) #[true, true, true, true, true, true, true, true, true, true, true, true, true, false, false] rfl rfl (by kernel_rfl) (fun _ _ _ h => h) (Or.inl ⟨by rfl, ?_⟩) ?_ ?_
            rotate_left
            · intro w'
              go_simp
              with_reducible rfl
            rotate_left
            · simp only [Act.put, List.setIfInBounds_toArray, List.set_cons_zero, List.set_cons_succ, i64_w, i32_w]
              rfl
            refine one_ (i := 13) (N := some 102) #[true, true, true, true, true, true, true, true, true, true, true, true, true, true, false] rfl rfl (by kernel_rfl) (by decide) (fun K hK => ?_)
            refine goes_ Try.func18 (by kernel_rfl) rfl #[Value.pointer (some ⟨g, 0, none⟩), Value.int .i64 (wrap64 x0), Value.int .i64 (wrap64 x1)] (by rfl) rfl rfl (by simp only [List.map_toArray, List.map_cons, List.map_nil]; rfl) ?_
            with_reducible refine (crash_any _ Sg g Dg (wrap64 x0) (wrap64 x1) hdq).mono ?_
            rintro e w6 ⟨g1, rfl, hd1, hb1⟩
            refine ⟨_, rfl, ?_⟩
            have y0 := pw_cell_below hb1 q0
            have y1 := pw_cell_below hb1 q1
            refine hK.out _ _ ⟨y0, y1⟩ (fun hHeld => ?_)
            clear hK K
            refine norm_ (a' := ?_) ?_ ?_
            rotate_left
            · show Act.put _ (some 102) _ = _
              simp only [Act.put, List.setIfInBounds_toArray, List.set_cons_zero, List.set_cons_succ, i64_w, i32_w]
              rfl
            refine pure_ (i := 14) (N := some 7) (v := ?_) (a' := ?_) #[true, true, true, true, true, true, true, true, true, true, true, true, true, true, true] rfl rfl (by kernel_rfl) (fun _ _ _ h => h) (Or.inl ⟨by rfl, ?_⟩) ?_ ?_
            rotate_left
            · intro w'
              go_simp
              with_reducible rfl
            rotate_left
            · simp only [Act.put, List.setIfInBounds_toArray, List.set_cons_zero, List.set_cons_succ, i64_w, i32_w]
              rfl
            refine done_ (by kernel_rfl) ?_
            have hm6 : Mess (Dg.crash (wrap64 x0) (wrap64 x1)) fs ([] : List (List Int)) := by
              rcases HPM.out with h | h
              · exact h.crash hdg.ok _ _
              · exact h.crash hdg.ok _ _
            have hd6 := hd1.bound
            have y2 := pw_cell_below hb1 (show wr.drew.cell? ⟨bq, oq + j * 3 + 2, none⟩ = some (.int .i8 x2) from Q2.out)
            have hb1' : Below wr.heap.size wr w6 := ⟨hb1.os, hb1.tape, hb1.output, hb1.size, hb1.block⟩
            have hs6 : wr.heap.size ≤ w6.heap.size := hb1'.size
            have hb6 : Below wx.heap.size wx w6 := hbg.trans (hb1'.mono hsg)
            clear hd1 hb1 hb1' HPM hdg hdq q0 q1 Q2 y0 y1 hHeld hbg hbw
            generalize Dg.crash (wrap64 x0) (wrap64 x1) = D6 at *
            go_wp2_with fail
            refine (cut_any w6 _ g1 D6 _ hd6).mono ?_
            rintro e w7 ⟨rfl, hd7, hf7⟩
            generalize hD7 : D6.cutAt _ = D7 at hd7
            have hm7 : Mess D7 fs ([] : List (List Int)) := by rw [← hD7]; exact hm6.cut _
            have hs7 := hf7.size
            have hb7 : Below wx.heap.size wx w7 := hb6.trans (hf7.below (by omega) (fun k hk => by have := hk.1; exact Nat.le_trans hsg this))
            clear hD7 hm6 hd6 hf7 hb6 y2
            go_wp2_with fail
            refine (open_mess w7 _ g1 D7 fs ([] : List (List Int)) hd7 (fun k hk => by have := hk.2; omega) hm7 HLf.out.valid).mono ?_
            rintro e w8 ⟨fs', x, D8, -, hp, hm8, -⟩
            obtain ⟨p, rfl⟩ := hp.tuple
            have ho8 := hp.own hb7 (by omega) (fun k hk => by have := hk.1; exact Nat.le_trans hsg this)
            have ho9 := ho8.at_
            have hb8 := ho8.below
            have HM8 : Hid (Pre D8 fs ([] : List (List Int)) ∨ Mess D8 fs ([] : List (List Int))) := hid (.inr hm8)
            clear hp hm8 ho8 hm7 hd7 hb7
            go_wp2
            go_roundw
            case rel => exact ⟨j + 1, g1, _, D8, rfl, by go_num, by omega, by omega, ho9, HM8, hb8⟩
            case measure => simp [intOf]; omega
          · have hx : ¬ j < len2 ∨ (j < len2 ∧ ¬ j < 4) := by omega
            rcases hx with hx1 | ⟨hx1, hx2⟩
            all_goals
              go_wp2_with fail
              refine (crash_any wr Sg g Dg _ _ hdg).mono ?_
              rintro e w6 ⟨g1, rfl, hd1, hb1⟩
              generalize hD6 : Dg.crash _ _ = D6 at hd1
              have hm6 : Mess D6 fs ([] : List (List Int)) := by
                rw [← hD6]
                rcases HPM.out with h | h
                · exact h.crash hdg.ok _ _
                · exact h.crash hdg.ok _ _
              have hc6 : D6.cut = false := by rw [← hD6]; rfl
              have ho6 : D6.off = false := by rw [← hD6]; rfl
              have hd6 := hd1.bound
              have hs6 := hb1.size
              have hb6 : Below wx.heap.size wx w6 := hbg.trans (hb1.mono hsg)
              clear hD6 hd1 hb1 HPM hdg hbg
              have HC6 := hid hc6
              have HO6 := hid ho6
              clear hc6 ho6
              go_wp2_with fail
              refine (open_mess w6 _ g1 D6 fs ([] : List (List Int)) hd6 (fun k hk => hk.2) hm6 HLf.out.valid).mono ?_
              rintro e w7 ⟨fs', x, D7, hfs, hp, -, hq⟩
              obtain ⟨rfl, -⟩ := hq HC6.out HO6.out
              obtain ⟨hf7, hp⟩ := hp
              have hp2 := hp.resolve_left (fun h => absurd rfl h.1)
              obtain ⟨-, g7, rfl, hj7⟩ := hp2
              obtain ⟨Sj7, hj7⟩ := hj7.jour
              have hb7 : Below wx.heap.size wx w7 := hb6.trans (hf7.below (by omega) (fun k hk => by have := hk.1; omega))
              have hs7 := hf7.size
              clear hq hp hm6 hd6 hb6 hf7
              go_wp2_with fail
              refine (awake_journal _).mono ?_
              rintro e w8 ⟨rfl, hb8⟩
              have hj8 := hj7.move (w1 := w8) fun k _ hl => hb8.block k hl
              have hb9 : Below wx.heap.size wx w8 := hb7.trans (hb8.mono (by omega))
              have hb10 : Below w.heap.size w w8 := hbx.trans (hb9.mono hsx)
              have hFa8 := Kd.F_step hFa (W1 := w8) fun k hk hl => hb9.block k hk
              have hFl8 := Kd.F_step hFl (W1 := w8) fun k hk hl => hb9.block k hk
              have hs8 := hb8.size
              clear hb8 hb7 hj7 hbw hFa hFl hbx
              rcases hfs with rfl | ⟨hvl, rfl⟩
              · rw [← HLf.out.flat] at hj8
                go_wp2_with fail
                refine (holds_any _ Sj7 g7 _ all false Aa _ ca hj8 (Kd.F_now hFa8) hca HLf.out.len (by have := HLf.out.count; omega)).mono ?_
                rintro e w9 ⟨rfl, hb11⟩
                have hb12 := hb10.trans (hb11.mono hb10.size)
                clear hj8 hFa8 hFl8 hb11 hb10
                go_wp2
                go_ret
                exact ⟨rfl, hb12⟩
              · exact absurd hvl.n1 (by decide)
end Go.Proofs.Ytnakolpaabpifaa.journalCrash
