/- The walk of the law JournalRoom. -/
import Derived.Test.YtnakolpaabpifaaJ18
set_option linter.unusedVariables false
set_option linter.unusedSimpArgs false
namespace Go.Proofs.Ytnakolpaabpifaa.journalRoom
open Go.RowKit Go.Proofs.YtnakolpaabpifaaW.PrintWords Go.Proofs.YtnakolpaabpifaaW.PrintLast

theorem wf_u16 {n : Int} (h : (Lit.int .u16 n).wf = true) : 0 ≤ n ∧ n < 65536 := by
  simp [Lit.wf, IntKind.min, IntKind.max, IntKind.signed, IntKind.bits] at h
  omega
theorem frame_one (b : List Int) : (frameP [b]).length = 11 + b.length := by
  rw [frameP_length, bodyP_length]
  have : [b].flatten = b := by simp
  rw [this]
  simp; omega

set_option maxRecDepth 100000 in
set_option maxHeartbeats 1600000 in
theorem walk (a0 : Int) (a1 : Option Addr) (len1 cap1 : Nat) (z1 : List Int) (w : World) (w0 : (Lit.int .u16 a0).wf = true) (w1 : IsRow .u8 w a1 len1 cap1 z1) :
    Calls Try.prog 9 #[.int .u16 a0, .slice a1 len1 cap1] w fun e w' => e = .returned (.bool true) ∧ Below w.heap.size w w' := by
  obtain ⟨hr, hc, hby, hbl⟩ := w1.reads
  have h0 := wf_u16 w0
  generalize z1.take len1 = zs at *
  clear w0 w1
  have hm0 : 0 ≤ a0 % 3000 := Int.emod_nonneg _ (by decide)
  have hm1 : a0 % 3000 < 3000 := Int.emod_lt_of_pos _ (by decide)
  have Hl := hid hr.1
  have hmx := hr.2.1
  go_enter Try.func9, Try.ntmps9
  go_wp2_with fail
  generalize a0 % 3000 = sp at *
  refine (new_any _ sp hm0 (by omega)).mono ?_
  rintro e w1 ⟨rfl, hd1, hb1⟩
  go_wp2_with fail
  refine (open_quiet w1 (fun k => k = w.heap.size) w.heap.size (DS.new sp) sp [] [] [] hd1 (fun k hk => by subst hk; exact hd1.lt) (Quiet.new sp) (hid rfl) (hid rfl) (by simp)).mono ?_
  rintro e w2 ⟨gj, D2, rfl, hj2, hf2, q2⟩
  have hb2 : Below w.heap.size w w2 := hb1.trans (hf2.below hb1.size (fun k hk => by omega))
  have hj3 : JD w2 (fun k => w.heap.size ≤ k ∧ k < w2.heap.size) gj w.heap.size [] false D2 := (hj2.mono (S1 := fun k => w.heap.size ≤ k) (fun k hk => by rcases hk with hk | hk; omega; have := hb1.size; omega)).bound
  have hJL := JL.start hj3
  clear hd1 hf2 hj2 hb1 hj3
  go_wp2
  go_loopw [10, 11, 12, 13, 14] (fun v10 v11 v12 _ _ wr => ∃ (k : Nat) (need : Int) (all : List (List Int)) (fs : List (List (List Int))) (D : DS), v10 = .int .i64 need ∧ v12 = .int .i64 k ∧ k ≤ len1 ∧ 0 ≤ need ∧ need ≤ k * 600 ∧ k ≤ 40 ∧ JL w.heap.size wr gj w.heap.size v11 all all false D ∧ Hid (all = fs.flatten ∧ Quiet D sp (framesP fs) ∧ (∀ rs ∈ fs, VR rs) ∧ ((framesP fs).length : Int) ≤ need ∧ (∀ r ∈ all, r.length ≤ 100000) ∧ all.length ≤ k) ∧ Below w.heap.size w wr) (fun _ _ v12 _ _ _ => 40 - (intOf v12).toNat)
  case atStart => exact ⟨0, 0, [], [], D2, rfl, rfl, Nat.zero_le _, by decide, by decide, by decide, hJL, hid ⟨rfl, q2, by simp, by simp [framesP], by simp, by simp⟩, hb2⟩
  case round =>
    clear hJL q2 hb2
    obtain ⟨k, need, all, fs, D, rfl, rfl, hk, hn0, hn1, hk4, hJ, HH, hb⟩ := hrel
    by_cases hlt : k < len1 ∧ k < 40
    · obtain ⟨hlt1, hlt2⟩ := hlt
      obtain ⟨ad, rfl, hcell⟩ := (hr.below hb).2.2 (by omega)
      have q1 := hcell k hlt1
      have hzb : 0 ≤ zs.getD k 0 ∧ zs.getD k 0 < 256 := by
        rw [List.getD_eq_getElem?_getD, List.getElem?_eq_getElem (by rw [Hl.out]; exact hlt1)]
        exact hby _ (List.getElem_mem _)
      clear hcell
      generalize zs.getD k 0 = z at *
      obtain ⟨m, rfl⟩ := Int.eq_ofNat_of_zero_le hzb.1
      have hm256 : m < 256 := by omega
      have hmk := print_make (P := Try.prog) 30 5 .u8 1 Try.underlying30 info5 (by decide) m (by omega)
      obtain ⟨S, hjd, hS, hrows⟩ := hJ
      have hvlt := Kd.N_lt hrows
      have hbase := hb.size
      have hob : OwnB (wr.alloc (.cells (madeCells #[.int .u8 0] m) 5)) (fun k => k = wr.heap.size) (.slice (some ⟨wr.heap.size, 0, none⟩) m m) (List.replicate m 0) :=
        ⟨by have := own_made wr 0 5 .u8 m (Nat.zero_le _) (by omega); rwa [List.length_replicate], fun k hk => by simp [Value.ownBlock] at hk; omega⟩
      have hbl : (List.replicate m (0 : Int)).length = m := List.length_replicate
      have hbb : IsBytes (List.replicate m (0 : Int)) := fun x hx => by rw [List.eq_of_mem_replicate hx]; decide
      generalize List.replicate m (0 : Int) = b at *
      have hsm : (wr.alloc (.cells (madeCells #[.int .u8 0] m) 5)).heap.size = wr.heap.size + 1 := by simp
      have hbm : Below wr.heap.size wr (wr.alloc (.cells (madeCells #[.int .u8 0] m) 5)) := (Below.refl _ _).alloc (Nat.le_refl _) _
      have hF0 := F_lit (w := wr.alloc (.cells (madeCells #[.int .u8 0] m) 5)) (vs := [.slice (some ⟨wr.heap.size, 0, none⟩) m m]) (xs := [b]) (okp := fun k => k = wr.heap.size) (ok := fun k => wr.heap.size ≤ k ∧ k < wr.heap.size + 2) rfl (by simp) (fun j hj => by
          obtain rfl : j = 0 := by simpa using hj
          exact hob.fk) (fun k hk => by omega) (by rw [hsm]; omega) (fun k hk => by rw [hsm]; omega)
      rw [hsm] at hF0
      have hbp : Below wr.heap.size wr ((wr.alloc (.cells (madeCells #[.int .u8 0] m) 5)).alloc (.cells #[.slice (some ⟨wr.heap.size, 0, none⟩) m m] 30)) := hbm.alloc (by rw [hsm]; omega) _
      have hsp : ((wr.alloc (.cells (madeCells #[.int .u8 0] m) 5)).alloc (.cells #[.slice (some ⟨wr.heap.size, 0, none⟩) m m] 30)).heap.size = wr.heap.size + 2 := by simp
      have hop := hob.move (w1 := (wr.alloc (.cells (madeCells #[.int .u8 0] m) 5)).alloc (.cells #[.slice (some ⟨wr.heap.size, 0, none⟩) m m] 30)) fun k _ hl => Below.heap_alloc _ _ _ hl
      have hjp := hjd.move hbp.size fun k _ hl => hbp.block k hl
      have hrp := Kd.N_below hrows hbp
      have hvr : VR [b] := ⟨by simp, by simp, fun r hr => by rw [List.mem_singleton] at hr; subst hr; omega, fun r hr => by rw [List.mem_singleton] at hr; subst hr; exact hbb⟩
      have hF1 := frame_one b
      clear hob hbm hjd hrows
      by_cases hfull : sp - ((framesP fs).length : Int) < ((frameP [b]).length : Int)
      · obtain ⟨D3, e3, q3⟩ := HH.out.2.1.jappend_full hfull
        have E3 := hid e3
        have hov : ¬ need + (2 * (m : Int) + 64) ≤ sp := by have := HH.out.2.2.2.1; omega
        clear e3
        go_wp2_with fail
        generalize (wr.alloc (.cells (madeCells #[.int .u8 0] m) 5)).alloc (.cells #[.slice (some ⟨wr.heap.size, 0, none⟩) m m] 30) = wp at *
        refine (append_jd wp S _ gj w.heap.size all [b] all D D3 43 false _ 1 1 hjp hF0 (fun k hk => ⟨fun h => by have := (hS k h).2; omega, by omega⟩) (Nat.le_refl _) hvr (hid E3.out.symm) (hid rfl) (by have := HH.out.2.2.2.2.2; omega)).mono ?_
        rintro e w5 ⟨rfl, hj5, hf5⟩
        have hb5 : Below w.heap.size w w5 := (hb.trans (hbp.mono hbase)).trans (hf5.below (by omega) (fun k hk => (hS k hk).1))
        have hJ5 : JL w.heap.size w5 gj w.heap.size u11 all all false D3 := JL.after (fun k hk => ⟨(hS k hk).1, by have := (hS k hk).2; omega⟩) (by omega) hrp hj5 hf5
        clear hj5 hf5 hjp hrp hop hbp hF0 q1
        go_wp2_with fail
        refine (hJ5.holds HH.out.2.2.2.2.1 (by have := HH.out.2.2.2.2.2; omega)).mono ?_
        rintro e w6 ⟨rfl, hb6⟩
        have hJ6 := hJ5.move hb6
        have hb7 := hb5.trans (hb6.mono hb5.size)
        clear hJ5 hb6 hb5
        go_wp2_with fail
        refine hJ6.dead.mono ?_
        rintro e w7 ⟨rfl, rfl⟩
        go_wp2
        go_roundw
        case rel => exact ⟨k + 1, need, all, fs, D3, by first | rfl | go_num, by go_num, by omega, hn0, by omega, by omega, hJ6, hid ⟨HH.out.1, q3, HH.out.2.2.1, HH.out.2.2.2.1, HH.out.2.2.2.2.1, by have := HH.out.2.2.2.2.2; omega⟩, hb7⟩
        case measure => simp [intOf]; omega
      · obtain ⟨D3, e3, q3⟩ := HH.out.2.1.jappend_ok hfull
        have E3 := hid e3
        clear e3
        go_wp2_with fail
        generalize (wr.alloc (.cells (madeCells #[.int .u8 0] m) 5)).alloc (.cells #[.slice (some ⟨wr.heap.size, 0, none⟩) m m] 30) = wp at *
        refine (append_jd wp S _ gj w.heap.size all [b] (all ++ [b]) D D3 0 false _ 1 1 hjp hF0 (fun k hk => ⟨fun h => by have := (hS k h).2; omega, by omega⟩) (Nat.le_refl _) hvr (hid E3.out.symm) (hid rfl) (by have := HH.out.2.2.2.2.2; omega)).mono ?_
        rintro e w5 ⟨rfl, hj5, hf5⟩
        have hb5 : Below w.heap.size w w5 := (hb.trans (hbp.mono hbase)).trans (hf5.below (by omega) (fun k hk => (hS k hk).1))
        have hs5 := hf5.size
        have ho5 := hop.fr hf5 (fun k hk h => by have := (hS k h).2; omega)
        have hr5 := rows_after hrp hf5
        have hj6 := hj5.bound
        have hl9 : (all.length + 1) * 24 ≤ 140737488355328 := by have := HH.out.2.2.2.2.2; omega
        have hnew : ∀ k, w5.heap.size ≤ k → (w.heap.size ≤ k ∧ ¬ (Ext S wp k ∧ k < w5.heap.size)) := fun k hk => ⟨by omega, fun h => by have := h.2; omega⟩
        have hokp : ∀ k, k = wr.heap.size → (w.heap.size ≤ k ∧ ¬ (Ext S wp k ∧ k < w5.heap.size)) ∧ some k ≠ u11.ownBlock := fun k hk => ⟨⟨by omega, fun h => by
          rcases h.1 with h | h
          · have := (hS k h).2; omega
          · omega⟩, fun e => by have := hvlt k e.symm; omega⟩
        clear hj5 hf5 hjp hrp hop hbp hF0 q1
        go_wp2_with (at_builtin; refine Kd.N_append KB (w0 := w5) 0 rfl (.tmp 65) (.tmp 67) 55 30 (.slice none 0 0) 24 rfl Try.underlying55 info30 rfl (by decide) (by decide) u11 all b _ (fun k => w.heap.size ≤ k ∧ ¬ (Ext S wp k ∧ k < w5.heap.size)) (fun k => k = wr.heap.size) rfl rfl ho5.fk hokp hnew hr5 (Below.refl _ _) (Nat.zero_le _) hl9 ?_)
        intro v6 w6 hN6 _ hg6 _
        have hj7 := hj6.move (w1 := w6) hg6.size fun k hk hl => hg6.block k hl fun e => (hr5.1 k e.symm).2 hk
        have hb6 : Below w.heap.size w w6 := hb5.grown hg6 hb5.size fun k hk => (hr5.1 k hk).1
        have hJ6 : JL w.heap.size w6 gj w.heap.size v6 (all ++ [b]) (all ++ [b]) false D3 := ⟨_, hj7, fun k hk => ⟨by
          rcases hk.1 with h | h
          · exact (hS k h).1
          · omega, by have := hk.2; have := hg6.size; omega⟩, Kd.N_mono hN6 (fun k hk => ⟨hk.1, fun h => by have := hk.2 h.1; have := h.2; omega⟩)⟩
        have hm6 : ∀ r ∈ all ++ [b], r.length ≤ 100000 := fun r hr => by
          rcases List.mem_append.1 hr with hr | hr
          · exact HH.out.2.2.2.2.1 r hr
          · rw [List.mem_singleton] at hr; subst hr; omega
        have hl6 : (all ++ [b]).length ≤ k + 1 := by rw [List.length_append, List.length_singleton]; have := HH.out.2.2.2.2.2; omega
        have hfr : framesP (fs ++ [[b]]) = framesP fs ++ frameP [b] := by unfold framesP; rw [List.flatMap_append]; simp
        have HH2 : Hid (all ++ [b] = (fs ++ [[b]]).flatten ∧ Quiet D3 sp (framesP (fs ++ [[b]])) ∧ (∀ rs ∈ fs ++ [[b]], VR rs) ∧ ((framesP (fs ++ [[b]])).length : Int) ≤ need + (2 * (m : Int) + 64) ∧ (∀ r ∈ all ++ [b], r.length ≤ 100000) ∧ (all ++ [b]).length ≤ k + 1) := by
          refine hid ⟨by rw [List.flatten_append, ← HH.out.1]; simp, by rw [hfr]; exact q3, fun rs hrs => ?_, ?_, hm6, hl6⟩
          · rcases List.mem_append.1 hrs with h | h
            · exact HH.out.2.2.1 rs h
            · rw [List.mem_singleton] at h; subst h; exact hvr
          · rw [hfr, List.length_append, hF1]; have := HH.out.2.2.2.1; omega
        generalize all ++ [b] = all2 at *
        clear hN6 hg6 hj7 hj6 hr5 ho5 hokp hnew hfr hb5 hfull hF1
        go_wp2_with fail
        refine (hJ6.holds hm6 (by omega)).mono ?_
        rintro e w7 ⟨rfl, hb7⟩
        have hJ7 := hJ6.move hb7
        have hb8 := hb6.trans (hb7.mono hb6.size)
        clear hJ6 hb7 hb6
        go_wp2_with fail
        refine hJ7.dead.mono ?_
        rintro e w8 ⟨rfl, rfl⟩
        go_wp2
        go_roundw
        case rel => exact ⟨k + 1, need + (2 * (m : Int) + 64), all2, fs ++ [[b]], D3, by first | rfl | go_num, by go_num, by omega, by omega, by omega, by omega, hJ7, HH2, hb8⟩
        case measure => simp [intOf]; omega
    · have hx : ¬ k < len1 ∨ (k < len1 ∧ ¬ k < 40) := by omega
      obtain ⟨S, hjd, hS, hrows⟩ := hJ
      obtain ⟨A, c, rfl, hcA, hC⟩ := Kd.N_reads hrows
      obtain ⟨Sd, hd⟩ := hjd.disk
      have q4 := HH.out.2.1.crash_ 0 0
      have hm6 := HH.out.2.2.2.2.1
      have hl6 := HH.out.2.2.2.2.2
      have hall := hid HH.out.1
      have hvs := HH.out.2.2.1
      have hbase := hb.size
      clear hrows hjd hS HH
      generalize hB : framesP fs = B at *
      have HB := hid hB.symm
      clear hB
      rcases hx with hx1 | ⟨hx1, hx2⟩
      all_goals
        go_wp2_with fail
        refine (crash_any _ Sd w.heap.size D 0 0 hd).mono ?_
        rintro e w3 ⟨g4, rfl, hd3, hb3⟩
        have hd4 := hd3.bound
        have hb4 := hb.trans (hb3.mono hbase)
        have hs3 := hb3.size
        clear hd hd3
        go_wp2_with fail
        refine (open_quiet _ _ g4 _ sp fs all B hd4 (fun k hk => hk.2) q4 HB hall hvs).mono ?_
        rintro e w5 ⟨g5, D5, rfl, hj5, hf5, _⟩
        have hb5 : Below wr.heap.size w3 w5 := hf5.below hs3 (fun k hk => hk.1)
        have hb6 : Below wr.heap.size wr w5 := hb3.trans hb5
        have hC5 := Kd.C_below hC hb6
        have hb7 : Below w.heap.size w w5 := hb.trans (hb6.mono hbase)
        obtain ⟨Sj, hj6⟩ := hj5.jour
        clear hj5 hf5 hd4 hb3 hb5 hb6 hC hb4
        go_wp2_with fail
        refine (awake_journal _).mono ?_
        rintro e w6 ⟨rfl, hb8⟩
        have hj7 := hj6.move (w1 := w6) fun k _ hl => hb8.block k hl
        have hC7 := Kd.C_below hC5 hb8
        have hb9 := hb7.trans (hb8.mono hb7.size)
        clear hj6 hC5 hb7 hb8
        go_wp2_with fail
        refine (holds_any _ Sj g5 _ all false A _ c hj7 hC7 hcA hm6 (by omega)).mono ?_
        rintro e w7 ⟨rfl, hb10⟩
        have hb11 := hb9.trans (hb10.mono hb9.size)
        clear hj7 hC7 hb10 hb9
        go_wp2
        go_ret
        exact ⟨rfl, hb11⟩
end Go.Proofs.Ytnakolpaabpifaa.journalRoom
