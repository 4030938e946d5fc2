/- The walk of the law JournalOn. -/
import Derived.Test.YtnakolpaabpifaaJ21
import Derived.Test.YtnakolpaabpifaaA5
set_option linter.unusedVariables false
set_option linter.unusedSimpArgs false
namespace Go.Proofs.Ytnakolpaabpifaa.journalOn
open Go.RowKit Go.Proofs.YtnakolpaabpifaaW.PrintWords Go.Proofs.YtnakolpaabpifaaW.PrintLast

/-- What the law knows of the records so far. -/
structure Known (k : Nat) (all : List (List Int)) (fs : List (List (List Int))) (D : DS) : Prop where
  flat : all = fs.flatten
  run : Run D fs
  valid : ∀ rs ∈ fs, VR rs
  size : (framesP fs).length ≤ k * 120
  len : ∀ r ∈ all, r.length ≤ 100000
  count : all.length ≤ k * 3
theorem blk_y6 {w w1 : World} {bo o : Nat} {v : Value} {u : Value} (h : w.cell? ⟨bo, o, none⟩ = some v) (hg : w.grownBy w1 u.ownBlock) (hne : u.ownBlock = some bo → False) : w1.cell? ⟨bo, o, none⟩ = some v :=
  (World.cell?_of_block (hg.block bo (World.block_lt_of_cell? w _ h) (fun e => hne e.symm))).trans h
theorem F_mono {w : World} {ok ok1 : Nat → Prop} {A : Option Addr} {n : Nat} {xs : List (List Int)} (h : Kd.F KB w ok A n xs) (hs : ∀ k, ok k → ok1 k) : Kd.F KB w ok1 A n xs := fun W' hW => h W' fun k hk hl => hW k (hs k hk) hl
theorem wf_i8 {n : Int} (h : (Lit.int .i8 n).wf = true) : -128 ≤ n ∧ n < 128 := by have := bounds_i8 h; omega
theorem N_emp (w : World) : Kd.N KB 30 (w.alloc (.cells #[] 30)) 0 (fun _ => True) (.slice (some ⟨w.heap.size, 0, none⟩) 0 0) [] :=
  Kd.R_N ⟨fun _ _ => trivial, [], World.ownsRow_lit (base := 0) (e := 30) (size := 1) w #[] 0 (Nat.zero_le _) (by decide) rfl, ⟨rfl, fun j y h => by simp at h⟩⟩
theorem F_none (w : World) (ok : Nat → Prop) : Kd.F KB w ok none ([] : List (List Int)).length [] := fun W' _ => ⟨rfl, by decide, fun h => absurd h (Nat.lt_irrefl _)⟩
theorem Known.same {k : Nat} {all : List (List Int)} {fs : List (List (List Int))} {D : DS} (h : Known k all fs D) : Known (k + 1) all fs D := ⟨h.flat, h.run, h.valid, by have := h.size; omega, h.len, by have := h.count; omega⟩
theorem batch_frame {rs : List (List Int)} (h : BatchOk rs) : (frameP rs).length ≤ 120 := by
  have h1 : rs.flatten.length ≤ 30 * rs.length := by
    have h2 := h.2
    clear h
    induction rs with
    | nil => simp
    | cons r rs ih =>
      have a := ih fun x hx => h2 x (List.mem_cons_of_mem _ hx)
      have b := (h2 r (by simp)).1
      rw [List.flatten_cons, List.length_append, List.length_cons]
      omega
  have h2 := h.1
  rw [frameP_length, bodyP_length]
  omega
theorem batch_vr {rs : List (List Int)} (h : BatchOk rs) (h0 : 0 < rs.length) : VR rs := ⟨h0, by have := h.1; omega, fun r hr => by have := (h.2 r hr).1; omega, fun r hr => (h.2 r hr).2⟩
theorem Known.more {k : Nat} {all rs : List (List Int)} {fs : List (List (List Int))} {D D3 : DS} (h : Known k all fs D) (hb : BatchOk rs) (h0 : 0 < rs.length) (q : Run D3 (fs ++ [rs])) : Known (k + 1) (all ++ rs) (fs ++ [rs]) D3 := by
  have hfr : framesP (fs ++ [rs]) = framesP fs ++ frameP rs := by unfold framesP; rw [List.flatMap_append]; simp
  refine ⟨by rw [List.flatten_append, ← h.flat]; simp, q, fun x hx => ?_, by rw [hfr, List.length_append]; have := batch_frame hb; have := h.size; omega, fun r hr => ?_, by rw [List.length_append]; have := hb.1; have := h.count; omega⟩
  · rcases List.mem_append.1 hx with hx | hx
    · exact h.valid x hx
    · rw [List.mem_singleton] at hx; subst hx; exact batch_vr hb h0
  · rcases List.mem_append.1 hr with hr | hr
    · exact h.len r hr
    · have := (hb.2 r hr).1; omega
/-- What the law knows where the journal may have died. -/
structure Left (last : List (List Int)) (fs : List (List (List Int))) (D : DS) : Prop where
  pre : Pre D fs last
  valid : ∀ rs ∈ fs, VR rs
  size : (framesP fs).length ≤ 1440
  lsize : (frameP last).length ≤ 120
  len : ∀ rs ∈ fs, ∀ r ∈ rs, r.length ≤ 100000
  llen : ∀ r ∈ last, r.length ≤ 100000
  count : fs.flatten.length ≤ 36
  lcount : last.length ≤ 3
theorem Known.left {k : Nat} {all : List (List Int)} {fs : List (List (List Int))} {D : DS} (h : Known k all fs D) (hk : k ≤ 12) : Left [] fs D :=
  ⟨h.run.pre [], h.valid, by have := h.size; omega, by decide, fun rs hrs r hr => h.len r (by rw [h.flat]; exact List.mem_flatten.2 ⟨rs, hrs, hr⟩), by simp, by rw [← h.flat]; have := h.count; omega, by simp⟩
theorem Known.broke {k : Nat} {all rs : List (List Int)} {fs : List (List (List Int))} {D D3 : DS} (h : Known k all fs D) (hk : k ≤ 12) (hb : BatchOk rs) (hp : Pre D3 fs rs) : Left rs fs D3 :=
  ⟨hp, h.valid, by have := h.size; omega, batch_frame hb, fun rs hrs r hr => h.len r (by rw [h.flat]; exact List.mem_flatten.2 ⟨rs, hrs, hr⟩), fun r hr => by have := (hb.2 r hr).1; omega, by rw [← h.flat]; have := h.count; omega, hb.1⟩
/-- A journal that runs again. -/
structure Again (k : Nat) (all : List (List Int)) (fs : List (List (List Int))) (D : DS) : Prop where
  flat : all = fs.flatten
  quiet : Quiet D 20000 (framesP fs)
  valid : ∀ rs ∈ fs, VR rs
  size : (framesP fs).length ≤ 1560 + k * 120
  len : ∀ r ∈ all, r.length ≤ 100000
  count : all.length ≤ 39 + k * 3
theorem Left.again {last : List (List Int)} {fs fs' : List (List (List Int))} {D D' : DS} (h : Left last fs D) (hf : fs' = fs ∨ (VR last ∧ fs' = fs ++ [last])) (q : Quiet D' 20000 (framesP fs')) : Again 0 fs'.flatten fs' D' := by
  rcases hf with rfl | ⟨hv, rfl⟩
  · exact ⟨rfl, q, h.valid, by have := h.size; omega, fun r hr => by obtain ⟨rs, h1, h2⟩ := List.mem_flatten.1 hr; exact h.len rs h1 r h2, by have := h.count; omega⟩
  · have hfr : framesP (fs ++ [last]) = framesP fs ++ frameP last := by unfold framesP; rw [List.flatMap_append]; simp
    have hfl : (fs ++ [last]).flatten = fs.flatten ++ last := by rw [List.flatten_append, List.flatten_singleton]
    refine ⟨rfl, q, fun rs hrs => ?_, by rw [hfr, List.length_append]; have := h.size; have := h.lsize; omega, fun r hr => ?_, by rw [hfl, List.length_append]; have := h.count; have := h.lcount; omega⟩
    · rcases List.mem_append.1 hrs with hr | hr
      · exact h.valid rs hr
      · rw [List.mem_singleton] at hr; subst hr; exact hv
    · rw [hfl] at hr
      rcases List.mem_append.1 hr with hr | hr
      · obtain ⟨rs, h1, h2⟩ := List.mem_flatten.1 hr; exact h.len rs h1 r h2
      · exact h.llen r hr
theorem Again.same {k : Nat} {all : List (List Int)} {fs : List (List (List Int))} {D : DS} (h : Again k all fs D) : Again (k + 1) all fs D := ⟨h.flat, h.quiet, h.valid, by have := h.size; omega, h.len, by have := h.count; omega⟩
theorem Again.more {k : Nat} {all rs : List (List Int)} {fs : List (List (List Int))} {D D3 : DS} (h : Again k all fs D) (hb : BatchOk rs) (h0 : 0 < rs.length) (q : Quiet D3 20000 (framesP fs ++ frameP rs)) : Again (k + 1) (all ++ rs) (fs ++ [rs]) D3 := by
  have hfr : framesP (fs ++ [rs]) = framesP fs ++ frameP rs := by unfold framesP; rw [List.flatMap_append]; simp
  refine ⟨by rw [List.flatten_append, ← h.flat]; simp, by rw [hfr]; exact q, fun x hx => ?_, by rw [hfr, List.length_append]; have := batch_frame hb; have := h.size; omega, fun r hr => ?_, by rw [List.length_append]; have := hb.1; have := h.count; omega⟩
  · rcases List.mem_append.1 hx with hx | hx
    · exact h.valid x hx
    · rw [List.mem_singleton] at hx; subst hx; exact batch_vr hb h0
  · rcases List.mem_append.1 hr with hr | hr
    · exact h.len r hr
    · have := (hb.2 r hr).1; omega

/-- Beside changes of what is newer. -/
theorem JL.old {base : Nat} {w w1 w2 : World} {gj gd : Nat} {v : Value} {all jall : List (List Int)} {dead : Bool} {D : DS} (h : JL base w gj gd v all jall dead D) (hb : Below w.heap.size w w1) (h2 : Below w.heap.size w1 w2) : JL base w2 gj gd v all jall dead D := h.move (hb.trans h2)

set_option maxRecDepth 100000 in
set_option maxHeartbeats 1600000 in
theorem walk (a0 : Option Addr) (len0 cap0 : Nat) (F : Nat → Nat → Int) (a1 a2 a3 : Int) (a4 : Option Addr) (len4 cap4 : Nat) (G : Nat → Nat → Int) (w : World) (w0 : IsArr .u8 3 w a0 len0 cap0 F) (w1 : (Lit.int .u8 a1).wf = true) (w2 : (Lit.int .i64 a2).wf = true) (w3 : (Lit.int .i64 a3).wf = true) (w4 : IsArr .u8 3 w a4 len4 cap4 G) :
    Calls Try.prog 13 #[.slice a0 len0 cap0, .int .u8 a1, .int .i64 a2, .int .i64 a3, .slice a4 len4 cap4] w fun e w' => e = .returned (.bool true) ∧ Below w.heap.size w w' := by
  have H0 := hid w0
  have H4 := hid w4
  have h1 := wf_u8 w1
  have hm0 : len0 ≤ 9223372036854775807 := by have := w0.1; have := w0.2.1; unfold maxLen at this; omega
  have hm4 : len4 ≤ 9223372036854775807 := by have := w4.1; have := w4.2.1; unfold maxLen at this; omega
  clear w0 w1 w2 w3 w4
  go_enter Try.func13, Try.ntmps13
  go_wp2_with fail
  refine (new_any _ 20000 (by decide) (by decide)).mono ?_
  rintro e w1 ⟨rfl, hd1, hb1⟩
  go_wp2_with fail
  refine (open_quiet w1 (fun k => k = w.heap.size) w.heap.size (DS.new 20000) 20000 [] [] [] hd1 (fun k hk => by subst hk; exact hd1.lt) (Quiet.new 20000) (hid rfl) (hid rfl) (by simp)).mono ?_
  rintro e w2 ⟨gj, D2, rfl, hj2, hf2, q2⟩
  have hb2 : Below w.heap.size w w2 := hb1.trans (hf2.below hb1.size (fun k hk => by omega))
  have hj3 : JD w2 (fun k => w.heap.size ≤ k ∧ k < w2.heap.size) gj w.heap.size [] false D2 := (hj2.mono (S1 := fun k => w.heap.size ≤ k) (fun k hk => by rcases hk with hk | hk; omega; have := hb1.size; omega)).bound
  clear hd1 hf2 hj2 hb1
  obtain ⟨Sj, Sd, k1, k2, k3, k4, k5⟩ := hj3
  go_wp2_with fail
  refine (cut_any _ Sd w.heap.size D2 _ k2).mono ?_
  rintro e w3 ⟨rfl, hd3, hf3⟩
  have hj3 : JD w3 (fun k => w.heap.size ≤ k ∧ k < w3.heap.size) gj w.heap.size [] false _ :=
    ⟨Sj, Sd, k1.fr hf3 k5, hd3, fun k hk => ⟨⟨(k3 k hk).1.1, by have := (k3 k hk).2; have := hf3.size; omega⟩, by have := (k3 k hk).2; have := hf3.size; omega⟩, fun k hk => ⟨⟨(k4 k hk).1.1, by have := (k4 k hk).2; have := hf3.size; omega⟩, by have := (k4 k hk).2; have := hf3.size; omega⟩, k5⟩
  have hb3 := hb2.trans (hf3.below hb2.size (fun k hk => (k4 k hk).1.1))
  have HR := hid ((Run.of_quiet (fs := []) q2).cut (a1 % 30))
  clear hd3 hf3 k1 k2 k3 k4 k5 hb2 q2
  generalize D2.cutAt (a1 % 30) = D3 at *
  go_wp2
  go_loopw [15] (fun v15 wr => ∃ (k : Nat) (all last : List (List Int)) (fs : List (List (List Int))) (D : DS) (dead : Bool), v15 = .int .i64 k ∧ k ≤ len0 ∧ k ≤ 12 ∧ JD wr (fun k => w.heap.size ≤ k ∧ k < wr.heap.size) gj w.heap.size all dead D ∧ Hid ((dead = false ∧ Known k all fs D) ∨ (dead = true ∧ Left last fs D)) ∧ Below w.heap.size w wr) (fun v15 _ => 12 - (intOf v15).toNat)
  case atStart => exact ⟨0, [], [], [], D3, false, rfl, Nat.zero_le _, by decide, hj3, hid (.inl ⟨rfl, rfl, HR.out, by simp, by simp [framesP], by simp, by simp⟩), hb3⟩
  case round =>
    clear hj3 HR hb3
    obtain ⟨k, all, last, fs, D, dead, rfl, hk, hk2, hjd, HK, hb⟩ := hrel
    have hbase := hb.size
    by_cases hlt : k < len0 ∧ k < 12
    · obtain ⟨hlt1, hlt2⟩ := hlt
      obtain ⟨bo, off, rfl, hbo, hcell⟩ := H0.out.2.2 (by omega)
      obtain ⟨c0, w0⟩ := hcell k hlt1 0 (by decide)
      obtain ⟨c1, w1'⟩ := hcell k hlt1 1 (by decide)
      obtain ⟨c2, w2'⟩ := hcell k hlt1 2 (by decide)
      have y0 : wr.cell? ⟨bo, off + k * 3, none⟩ = some (.int .u8 (F k 0)) := (hb.cell hbo).trans c0
      have y1 : wr.cell? ⟨bo, off + k * 3 + 1, none⟩ = some (.int .u8 (F k 1)) := (hb.cell hbo).trans c1
      have y2 : wr.cell? ⟨bo, off + k * 3 + 2, none⟩ = some (.int .u8 (F k 2)) := (hb.cell hbo).trans c2
      have r0 := wf_u8 w0
      have r1 := wf_u8 w1'
      have r2 := wf_u8 w2'
      clear c0 c1 c2 hcell w0 w1' w2'
      generalize F k 0 = x0 at *
      generalize F k 1 = x1 at *
      generalize F k 2 = x2 at *
      go_wp2_with fail
      refine (batch_any wr x0 x1 x2 r0 r1 r2).mono ?_
      rintro e w3 ⟨vb, rs, rfl, hNb, hB, hln, hb3⟩
      obtain ⟨Ab, cb, rfl⟩ := Kd.N_slice hNb
      have hFb := Kd.N_F (Kd.N_bound hNb)
      have hcb := (Kd.N_reads' hNb).2.1
      have hs3 := hb3.size
      have hj3 := hjd.move hs3 fun k _ hl => hb3.block k hl
      have hB3 : Below w.heap.size w w3 := hb.trans (hb3.mono hbase)
      clear hNb hjd y0 y1 y2
      rcases Nat.eq_zero_or_pos rs.length with hz | hz
      · obtain rfl : rs = [] := List.eq_nil_of_length_eq_zero hz
        have hJ3 : JD w3 (fun k => w.heap.size ≤ k ∧ k < w3.heap.size) gj w.heap.size all dead D := hj3.mono fun k hk => ⟨hk.1, by have := hk.2; omega⟩
        have HK2 : Hid ((dead = false ∧ Known (k + 1) all fs D) ∨ (dead = true ∧ Left last fs D)) := hid (by
          rcases HK.out with ⟨h1, h2⟩ | h
          · exact .inl ⟨h1, h2.same⟩
          · exact .inr h)
        clear hj3 hFb HK
        go_wp2_with fail
        refine (append_empty _ _ _ _).mono ?_
        rintro e w4 ⟨rfl, rfl⟩
        go_wp2
        go_roundw
        case rel => exact ⟨k + 1, all, last, fs, D, dead, by go_num, by omega, by omega, hJ3, HK2, hB3⟩
        case measure => simp [intOf]; omega
      · have hvr := batch_vr hB hz
        cases dead with
        | true =>
          have HK2 : Hid (Left last fs D) := hid (by
            rcases HK.out with ⟨h1, h2⟩ | h
            · exact absurd h1 (by decide)
            · exact h.2)
          obtain ⟨Sj, Sd, k1, k2, k3, k4, k5⟩ := hj3
          go_wp2_with fail
          refine (append_dead _ _ _ _ _ rs (Kd.F_now hFb) hcb hvr (.inr ⟨gj, Sj, all, true, some ⟨w.heap.size, 0, none⟩, rfl, k1, .inr ⟨⟨_, rfl⟩, rfl⟩⟩)).mono ?_
          rintro e w4 ⟨rfl, hb4⟩
          have hj4 : JD w3 (fun k => w.heap.size ≤ k ∧ k < wr.heap.size) gj w.heap.size all true D := ⟨Sj, Sd, k1, k2, k3, k4, k5⟩
          have hJ4 : JD w4 (fun k => w.heap.size ≤ k ∧ k < w4.heap.size) gj w.heap.size all true D := (hj4.move hb4.size fun k _ hl => hb4.block k hl).mono fun k hk => ⟨hk.1, by have := hk.2; have := hb4.size; omega⟩
          have hB4 : Below w.heap.size w w4 := hB3.trans (hb4.mono hB3.size)
          clear hj4 k1 k2 k3 k4 k5 hFb HK hb4
          go_wp2
          go_roundw
          case rel => exact ⟨k + 1, all, last, fs, D, true, by go_num, by omega, by omega, hJ4, hid (.inr ⟨rfl, HK2.out⟩), hB4⟩
          case measure => simp [intOf]; omega
        | false =>
          have hkn : Known k all fs D := by
            rcases HK.out with ⟨h1, h2⟩ | ⟨h, _⟩
            · exact h2
            · exact absurd h (by decide)
          obtain ⟨x, dd, D3, e3, hout⟩ := hkn.run.jappend hvr (by have := batch_frame hB; have := hkn.size; omega)
          have E3 := hid e3
          obtain ⟨all', hall'⟩ : ∃ all', all' = if x = 0 then all ++ rs else all := ⟨_, rfl⟩
          have HA := hid hall'
          have HK2 : Hid (∃ fs' last', (dd = false ∧ Known (k + 1) all' fs' D3) ∨ (dd = true ∧ Left last' fs' D3)) := hid (by
            rcases hout with ⟨rfl, rfl, hrun⟩ | ⟨rfl, rfl, hpre⟩
            · rw [if_pos rfl] at hall'
              subst hall'
              exact ⟨_, [], .inl ⟨rfl, hkn.more hB hz hrun⟩⟩
            · exact ⟨_, rs, .inr ⟨rfl, hkn.broke hk2 hB hpre⟩⟩)
          have hcn := hkn.count
          clear e3 hout hall' HK hkn
          go_wp2_with fail
          refine (append_jd w3 (fun k => w.heap.size ≤ k ∧ k < wr.heap.size) _ gj w.heap.size all rs all' D D3 x dd _ _ _ hj3 hFb (fun k hk => ⟨fun h => by omega, hk.2⟩) hcb hvr (hid E3.out.symm) HA (by omega)).mono ?_
          rintro e w4 ⟨rfl, hj4, hf4⟩
          have hs4 := hf4.size
          have hJ4 : JD w4 (fun k => w.heap.size ≤ k ∧ k < w4.heap.size) gj w.heap.size all' dd D3 := hj4.bound.mono fun k hk => ⟨by rcases hk.1 with h | h; exact h.1; omega, hk.2⟩
          have hB4 := hB3.trans (hf4.below (by omega) (fun k hk => hk.1))
          obtain ⟨fs', last', hk2'⟩ := HK2.out
          have HK3 := hid hk2'
          clear hj4 hf4 hj3 hFb hB3 HK2 hk2'
          go_wp2
          go_roundw
          case rel => exact ⟨k + 1, all', last', fs', D3, dd, by go_num, by omega, by omega, hJ4, HK3, hB4⟩
          case measure => simp [intOf]; omega
    · have hx : ¬ k < len0 ∨ (k < len0 ∧ ¬ k < 12) := by omega
      obtain ⟨last', hlf⟩ : ∃ last', Left last' fs D := by
        rcases HK.out with ⟨_, h2⟩ | ⟨_, h2⟩
        · exact ⟨_, h2.left hk2⟩
        · exact ⟨_, h2⟩
      have HLf := hid hlf
      have hdk := hjd.ok
      obtain ⟨Sd, hdx⟩ := hjd.disk
      clear hjd HK hlf
      rcases hx with hx1 | ⟨hx1, hx2⟩
      all_goals
        go_wp2_with fail
        refine (crash_any wr Sd w.heap.size D a2 a3 hdx).mono ?_
        rintro e w6 ⟨g1, rfl, hd1, hb1⟩
        have hm6 : Mess (D.crash a2 a3) fs last' := HLf.out.pre.crash hdk _ _
        have HC6 : Hid ((D.crash a2 a3).cut = false) := hid rfl
        have HO6 : Hid ((D.crash a2 a3).off = false) := hid rfl
        have hd6 := hd1.bound
        have hs6 := hb1.size
        have hb6 : Below w.heap.size w w6 := hb.trans (hb1.mono hbase)
        clear hd1 hb1 hdx hb
        generalize D.crash a2 a3 = D6 at *
        go_wp2_with fail
        refine (open_mess w6 _ g1 D6 fs last' hd6 (fun k hk => hk.2) hm6 HLf.out.valid).mono ?_
        rintro e w7 ⟨fs', x, D7, hfs, hp, -, hq⟩
        obtain ⟨rfl, q7⟩ := hq HC6.out HO6.out
        obtain ⟨hf7, hp⟩ := hp
        have hp2 := hp.resolve_left (fun h => absurd rfl h.1)
        obtain ⟨-, g7, rfl, hj7⟩ := hp2
        have hs7 := hf7.size
        have HG : Hid (Again 0 fs'.flatten fs' D7) := hid (HLf.out.again hfs q7)
        have hj8 : JD w7 (fun k => w6.heap.size - (w6.heap.size - wr.heap.size) ≤ k ∧ k < w7.heap.size) g7 g1 fs'.flatten false D7 := hj7.bound.mono fun k hk => ⟨by rcases hk.1 with h | h; have := h.1; omega; omega, hk.2⟩
        have hJL : JL w.heap.size w7 g7 g1 (.slice none 0 0) [] fs'.flatten false D7 := ⟨_, hj8, fun k hk => ⟨by have := hk.1; omega, hk.2⟩, Kd.N_nil _ _ _ _ _⟩
        have hb7 : Below w.heap.size w w7 := hb6.trans (hf7.below (by omega) (fun k hk => by have := hk.1; omega))
        clear hq hp hm6 hd6 hb6 hf7 hj7 hj8 q7 hfs
        generalize fs'.flatten = all' at *
        go_wp2_with fail
        go_loopw [18, 19, 20, 21] (fun v18 v19 _ _ wr => ∃ j : Nat, v19 = .int .i64 j ∧ j ≤ all'.length ∧ JL w.heap.size wr g7 g1 v18 (all'.take j) all' false D7 ∧ Below w.heap.size w wr) (fun _ v19 _ _ _ => all'.length - (intOf v19).toNat)
        case atStart => exact ⟨0, rfl, Nat.zero_le _, by rw [List.take_zero]; exact hJL, hb7⟩
        case round =>
          clear hJL hb7
          obtain ⟨j, rfl, hj, hJ, hbz⟩ := hrel
          obtain ⟨S, hjd, hS, hrows⟩ := hJ
          obtain ⟨Sj, hjt⟩ := hjd.jour
          have hvlt := Kd.N_lt hrows
          have hbs := hbz.size
          have hc9 := HG.out.count
          by_cases hlj : j < all'.length
          · have hget : all'[j]? = some (all'[j]'hlj) := List.getElem?_eq_getElem hlj
            have hml := HG.out.len _ (List.getElem_mem hlj)
            have hts : Hid (all'.take (j + 1) = all'.take j ++ [all'[j]'hlj]) := hid (List.take_succ_eq_append_getElem hlj)
            have htl : (all'.take j).length = j := by rw [List.length_take]; omega
            generalize all'[j]'hlj = x at *
            generalize hxm : x.length = m at *
            generalize all'.take j = pre at *
            have HTL := hid htl
            clear htl
            go_wp2_with fail
            refine (len_any wr Sj g7 _ all' false (all'.length : Nat) hjt (hid rfl)).mono ?_
            rintro e w9 ⟨rfl, rfl⟩
            go_wp2_with fail
            refine (record_any wr Sj g7 _ all' false j x m hjt hget hxm (by omega)).mono ?_
            rintro e w9 ⟨A9, c9, rfl, ho9, hb9⟩
            have hj9 := hjd.move hb9.size fun k _ hl => hb9.block k hl
            have hr9 := Kd.N_below hrows hb9
            have hb10 : Below w.heap.size w w9 := hbz.trans (hb9.mono hbs)
            have hs9 := hb9.size
            have hokp : ∀ k, wr.heap.size ≤ k → (w.heap.size ≤ k ∧ ¬ S k) ∧ some k ≠ u18.ownBlock := fun k hk => ⟨⟨by omega, fun h => by have := (hS k h).2; omega⟩, fun e => by have := hvlt k e.symm; omega⟩
            have hal9 : (pre.length + 1) * 24 ≤ 140737488355328 := by rw [HTL.out]; omega
            clear hjd hrows hjt hb9 hbz
            go_wp2_with (at_builtin; refine Kd.N_append KB (w0 := w9) 0 rfl (.tmp 92) (.tmp 94) 55 30 (.slice none 0 0) 24 rfl Try.underlying55 info30 rfl (by decide) (by decide) u18 pre x _ (fun k => w.heap.size ≤ k ∧ ¬ S k) (fun k => wr.heap.size ≤ k) rfl rfl ho9.fk hokp (fun k hk => (hokp k (by omega)).1) hr9 (Below.refl _ _) (Nat.zero_le _) hal9 ?_)
            intro v6 w11 hN6 _ hg6 _
            have hj7 := hj9.move (w1 := w11) hg6.size fun k hk hl => hg6.block k hl fun e => (hr9.1 k e.symm).2 hk
            have hb11 : Below w.heap.size w w11 := hb10.grown hg6 hb10.size fun k hk => (hr9.1 k hk).1
            have hJ6 : JL w.heap.size w11 g7 g1 v6 (all'.take (j + 1)) all' false D7 := ⟨S, hj7, fun k hk => ⟨(hS k hk).1, by have := (hS k hk).2; have := hg6.size; omega⟩, by rw [hts.out]; exact hN6⟩
            clear hN6 hg6 hj7 hj9 hr9 hokp hb10 ho9
            go_wp2
            go_roundw
            case rel => exact ⟨j + 1, by go_num, by omega, hJ6, hb11⟩
            case measure => simp [intOf]; omega
          · obtain rfl : j = all'.length := by omega
            rw [List.take_length] at hrows
            have hJL : JL w.heap.size wr g7 g1 u18 all' all' false D7 := ⟨S, hjd, hS, hrows⟩
            clear hjd hrows hS hvlt
            go_wp2_with fail
            refine (len_any wr Sj g7 _ all' false (all'.length : Nat) hjt (hid rfl)).mono ?_
            rintro e w9 ⟨rfl, rfl⟩
            clear hjt
            generalize all'.length = n9 at *
            go_wp2_with fail
            go_loopw [18, 22, 23] (fun v18 v22 _ wr => ∃ (k : Nat) (all : List (List Int)) (fs : List (List (List Int))) (D : DS), v22 = .int .i64 k ∧ k ≤ len4 ∧ k ≤ 10 ∧ JL w.heap.size wr g7 g1 v18 all all false D ∧ Hid (Again k all fs D) ∧ Below w.heap.size w wr) (fun _ v22 _ _ => 10 - (intOf v22).toNat)
            case atStart => exact ⟨0, _, _, _, rfl, Nat.zero_le _, by decide, hJL, HG, hbz⟩
            case round =>
              clear hJL hbz HG hc9
              obtain ⟨k, all, fs, D, rfl, hk, hk2, hJ, HK, hb⟩ := hrel
              have hbase := hb.size
              by_cases hlt : k < len4 ∧ k < 10
              · obtain ⟨hlt1, hlt2⟩ := hlt
                obtain ⟨bo, off, rfl, hbo, hcell⟩ := H4.out.2.2 (by omega)
                obtain ⟨c0, w0⟩ := hcell k hlt1 0 (by decide)
                obtain ⟨c1, w1'⟩ := hcell k hlt1 1 (by decide)
                obtain ⟨c2, w2'⟩ := hcell k hlt1 2 (by decide)
                have y0 : wr.cell? ⟨bo, off + k * 3, none⟩ = some (.int .u8 (G k 0)) := (hb.cell hbo).trans c0
                have y1 : wr.cell? ⟨bo, off + k * 3 + 1, none⟩ = some (.int .u8 (G k 1)) := (hb.cell hbo).trans c1
                have y2 : wr.cell? ⟨bo, off + k * 3 + 2, none⟩ = some (.int .u8 (G k 2)) := (hb.cell hbo).trans c2
                have r0 := wf_u8 w0
                have r1 := wf_u8 w1'
                have r2 := wf_u8 w2'
                clear c0 c1 c2 hcell w0 w1' w2'
                generalize G k 0 = x0 at *
                generalize G k 1 = x1 at *
                generalize G k 2 = x2 at *
                go_wp2_with fail
                refine (batch_any wr x0 x1 x2 r0 r1 r2).mono ?_
                rintro e w3 ⟨vb, rs, rfl, hNb, hB, hln, hb3⟩
                obtain ⟨Ab, cb, rfl⟩ := Kd.N_slice hNb
                have hFb := Kd.N_F (Kd.N_bound hNb)
                have hcb := (Kd.N_reads' hNb).2.1
                obtain ⟨S, hjd, hS, hrows⟩ := hJ
                have hvlt := Kd.N_lt hrows
                have hs3 := hb3.size
                have hj3 := hjd.move hs3 fun k _ hl => hb3.block k hl
                have hr3 := Kd.N_below hrows hb3
                have hB3 : Below w.heap.size w w3 := hb.trans (hb3.mono hbase)
                clear hNb hjd hrows y0 y1 y2
                rcases Nat.eq_zero_or_pos rs.length with hz | hz
                · obtain rfl : rs = [] := List.eq_nil_of_length_eq_zero hz
                  have hJ3 : JL w.heap.size w3 g7 g1 u18 all all false D := ⟨S, hj3, fun k hk => ⟨(hS k hk).1, by have := (hS k hk).2; omega⟩, hr3⟩
                  have HK2 : Hid (Again (k + 1) all fs D) := hid HK.out.same
                  clear hj3 hr3 hFb HK
                  go_wp2
                  go_roundw
                  case rel => exact ⟨k + 1, all, fs, D, by go_num, by omega, by omega, hJ3, HK2, hB3⟩
                  case measure => simp [intOf]; omega
                · have hvr := batch_vr hB hz
                  obtain ⟨D3, e3, q3⟩ := HK.out.quiet.jappend_ok (F := frameP rs) (by have := batch_frame hB; have := HK.out.size; omega)
                  have E3 := hid e3
                  have HK2 : Hid (Again (k + 1) (all ++ rs) (fs ++ [rs]) D3) := hid (HK.out.more hB hz q3)
                  clear e3 q3
                  go_wp2_with fail
                  refine (append_jd w3 S _ g7 g1 all rs (all ++ rs) D D3 0 false _ _ _ hj3 hFb (fun k hk => ⟨fun h => by have := (hS k h).2; omega, hk.2⟩) hcb hvr (hid E3.out.symm) (hid rfl) (by have := HK.out.count; omega)).mono ?_
                  rintro e w4 ⟨rfl, hj4, hf4⟩
                  have hs4 := hf4.size
                  have hj5 := hj4.bound
                  have hr4 := rows_after hr3 hf4
                  have hF4 := Kd.F_step hFb (W1 := w4) fun k hk hl => hf4.block k hl (fun h => by have := (hS k h).2; omega)
                  have hB4 := hB3.trans (hf4.below (by omega) (fun k hk => (hS k hk).1))
                  have hnew : ∀ k, w4.heap.size ≤ k → (w.heap.size ≤ k ∧ ¬ (Ext S w3 k ∧ k < w4.heap.size)) := fun k hk => ⟨by omega, fun h => by have := h.2; omega⟩
                  have hok4 : ∀ k, (wr.heap.size ≤ k ∧ k < w3.heap.size) → (w.heap.size ≤ k ∧ ¬ (Ext S w3 k ∧ k < w4.heap.size)) ∧ some k ≠ u18.ownBlock := fun k hk => ⟨⟨by omega, fun h => by
                    rcases h.1 with h | h
                    · have := (hS k h).2; omega
                    · omega⟩, fun e => by have := hvlt k e.symm; omega⟩
                  have hl9 : (all.length + rs.length) * 24 ≤ 140737488355328 := by have := HK.out.count; have := hB.1; omega
                  clear hj4 hf4 hj3 hr3 hFb hB3
                  go_wp2_with (at_builtin; refine Kd.N_append_rows KB (w0 := w4) 0 rfl (.tmp 118) (.tmp 119) 55 30 (.slice none 0 0) 24 rfl Try.underlying55 info30 rfl (by decide) (by decide) u18 all rs Ab rs.length cb (fun k => w.heap.size ≤ k ∧ ¬ (Ext S w3 k ∧ k < w4.heap.size)) (fun k => wr.heap.size ≤ k ∧ k < w3.heap.size) rfl rfl hr4 hF4 hok4 hnew (Below.refl _ _) (Nat.zero_le _) hl9 ?_)
                  intro v6 w6 hN6 _ hg6 _
                  have hj7 := hj5.move (w1 := w6) hg6.size fun k hk hl => hg6.block k hl fun e => (hr4.1 k e.symm).2 hk
                  have hb6 : Below w.heap.size w w6 := hB4.grown hg6 hB4.size fun k hk => (hr4.1 k hk).1
                  have hJ6 : JL w.heap.size w6 g7 g1 v6 (all ++ rs) (all ++ rs) false D3 := ⟨_, hj7, fun k hk => ⟨by
                    rcases hk.1 with h | h
                    · exact (hS k h).1
                    · omega, by have := hk.2; have := hg6.size; omega⟩, Kd.N_mono hN6 (fun k hk => ⟨hk.1, fun h => by have := hk.2 h.1; have := h.2; omega⟩)⟩
                  clear hN6 hg6 hj7 hj5 hr4 hF4 hok4 hB4 hvlt hnew HK
                  go_wp2
                  go_roundw
                  case rel => exact ⟨k + 1, all ++ rs, fs ++ [rs], D3, by go_num, by omega, by omega, hJ6, HK2, hb6⟩
                  case measure => simp [intOf]; omega
              · have hy : ¬ k < len4 ∨ (k < len4 ∧ ¬ k < 10) := by omega
                have hc6 : all.length ≤ 1000000000 := by have := HK.out.count; omega
                have hdk : ∃ Sd, DiskAt wr Sd g1 D := by
                  obtain ⟨S, hjd, hS, hrows⟩ := hJ
                  exact hjd.disk
                obtain ⟨Sd, hdx⟩ := hdk
                have q9 := HK.out.quiet.crash_ a3 a2
                rcases hy with hy1 | ⟨hy1, hy2⟩
                all_goals
                  go_wp2_with fail
                  refine (crash_any wr Sd g1 D a3 a2 hdx).mono ?_
                  rintro e w9 ⟨g9, rfl, hd9, hb9⟩
                  have hd10 := hd9.bound
                  have hJ0 := hJ
                  have hb10 := hb.trans (hb9.mono hbase)
                  have hs9 := hb9.size
                  have hb9' := hb9
                  clear hdx hd9 hb9 hJ hb
                  go_wp2_with fail
                  refine (open_quiet _ _ g9 _ 20000 fs all _ hd10 (fun k hk => hk.2) q9 (hid rfl) (hid HK.out.flat) HK.out.valid).mono ?_
                  rintro e w11 ⟨g11, D11, rfl, hj11, hf11, _⟩
                  have hs11 := hf11.size
                  have hbn : Below wr.heap.size w9 w11 := hf11.below hs9 (fun k hk => hk.1)
                  obtain ⟨Sj11, hj11⟩ := hj11.jour
                  have hJ11 : JL w.heap.size w11 g7 g1 u18 all all false D := JL.old hJ0 hb9' hbn
                  have hb12 := hb10.trans (hf11.below (by omega) (fun k hk => by have := hk.1; omega))
                  clear hf11 hd10 hb10 q9 hJ0 hbn hb9'
                  go_wp2_with fail
                  refine (awake_journal _).mono ?_
                  rintro e w13 ⟨rfl, hb13⟩
                  have hj13 := hj11.move (w1 := w13) fun k _ hl => hb13.block k hl
                  have hJ13 := hJ11.move hb13
                  have hb14 := hb12.trans (hb13.mono hb12.size)
                  clear hJ11 hj11 hb12 hb13
                  go_wp2_with fail
                  refine (hJ13.holds HK.out.len hc6).mono ?_
                  rintro e w15 ⟨rfl, hb15⟩
                  have hj15 := hj13.move (w1 := w15) fun k _ hl => hb15.block k hl
                  have hJ15 := hJ13.move hb15
                  have hb16 := hb14.trans (hb15.mono hb14.size)
                  clear hJ13 hj13 hb14 hb15
                  obtain ⟨S15, _, _, hr15⟩ := hJ15
                  obtain ⟨A15, c15, rfl, hcA, hC⟩ := Kd.N_reads hr15
                  clear hr15
                  go_wp2_with fail
                  refine (holds_any _ Sj11 g11 _ all false A15 _ c15 hj15 hC hcA HK.out.len hc6).mono ?_
                  rintro e w17 ⟨rfl, hb17⟩
                  have hb18 := hb16.trans (hb17.mono hb16.size)
                  clear hj15 hC hb16 hb17
                  go_wp2
                  go_ret
                  exact ⟨rfl, hb18⟩
end Go.Proofs.Ytnakolpaabpifaa.journalOn
