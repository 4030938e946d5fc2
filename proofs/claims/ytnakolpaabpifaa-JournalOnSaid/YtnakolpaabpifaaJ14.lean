/- A journal is opened. -/
import Derived.Test.YtnakolpaabpifaaJ13
set_option linter.unusedVariables false
set_option linter.unusedSimpArgs false
namespace Go.Proofs.Ytnakolpaabpifaa
open Go.RowKit Go.Proofs.YtnakolpaabpifaaW.PrintWords Go.Proofs.YtnakolpaabpifaaW.PrintLast

def framesP (fs : List (List (List Int))) : List Int := fs.flatMap frameP
def lenF (fs : List (List (List Int))) (j : Nat) : Nat := (framesP (fs.take j)).length
theorem lenF_zero (fs : List (List (List Int))) : lenF fs 0 = 0 := rfl
theorem lenF_succ (fs : List (List (List Int))) (j : Nat) (h : j < fs.length) : lenF fs (j + 1) = lenF fs j + (frameP fs[j]).length := by
  unfold lenF framesP
  rw [List.take_succ_eq_append_getElem h, List.flatMap_append, List.length_append]
  simp
theorem lenF_all (fs : List (List (List Int))) : lenF fs fs.length = (framesP fs).length := by unfold lenF; rw [List.take_length]
theorem frames_drop (fs : List (List (List Int))) (t : List Int) (j : Nat) (h : j < fs.length) : ∃ rest, (framesP fs ++ t).drop (lenF fs j) = frameP fs[j] ++ rest := by
  refine ⟨framesP (fs.drop (j + 1)) ++ t, ?_⟩
  have e : framesP fs = framesP (fs.take j) ++ (frameP fs[j] ++ framesP (fs.drop (j + 1))) := by
    have h1 : fs = fs.take j ++ (fs[j] :: fs.drop (j + 1)) := by rw [← List.drop_eq_getElem_cons h, List.take_append_drop]
    conv => lhs; rw [h1]
    unfold framesP
    rw [List.flatMap_append, List.flatMap_cons]
  unfold lenF
  rw [e, List.append_assoc, List.drop_left, List.append_assoc]
theorem frames_end (fs : List (List (List Int))) (t : List Int) : (framesP fs ++ t).drop (lenF fs fs.length) = t := by
  rw [lenF_all, List.drop_left]
theorem lenF_le (fs : List (List (List Int))) (j : Nat) : lenF fs j ≤ (framesP fs).length := by
  have h1 : framesP fs = framesP (fs.take j) ++ framesP (fs.drop j) := by
    unfold framesP; rw [← List.flatMap_append, List.take_append_drop]
  unfold lenF
  rw [h1, List.length_append]; omega

/-- What Open does to the disk, and its answer: n bytes of whole frames, and more behind them or not. -/
def DS.jopen (D : DS) (n : Nat) (more : Bool) : Int × DS :=
  let r := if more then D.truncate n else (0, D)
  if r.1 ≠ 0 then (42, r.2)
  else
    let s := if 0 < n then r.2.sync else (0, r.2)
    if s.1 ≠ 0 then (42, s.2) else (0, s.2)

/-- What Open leaves. -/
def OpenPost (w : World) (S : Nat → Prop) (gd : Nat) (all : List (List Int)) (x : Int) (D' : DS) (e : Ending) (w' : World) : Prop :=
  Fr S w w' ∧ ((x ≠ 0 ∧ e = .returned (.tuple #[.pointer none, .int .i64 x]) ∧ DiskAt w' S gd D') ∨ (x = 0 ∧ ∃ gj, e = .returned (.tuple #[.pointer (some ⟨gj, 0, none⟩), .int .i64 0]) ∧ JD w' (Ext S w) gj gd all false D'))

set_option maxHeartbeats 400000 in
theorem open_nil (w : World) : Calls Try.prog 28 #[.pointer none] w fun e w' => e = .returned (.tuple #[.pointer none, .int .i64 21]) ∧ w = w' := by
  go_enter Try.func28, Try.ntmps28
  go_wp2
  go_ret2
  exact ⟨rfl, rfl⟩

theorem OpenPost.good {w w9 : World} {S : Nat → Prop} {gd gj : Nat} {all : List (List Int)} {D' : DS} {x : Int} (hx : x = 0) (hf : Fr S w w9) (hjt : JAt w9 (fun k => gj ≤ k) gj (.pointer (some ⟨gd, 0, none⟩)) all false) (hd : DiskAt w9 S gd D') (hS : ∀ k, S k → k < w.heap.size) (hgw : w.heap.size ≤ gj) :
    OpenPost w S gd all x D' (.returned (.tuple #[.pointer (some ⟨gj, 0, none⟩), .int .i64 0])) w9 :=
  ⟨hf, .inr ⟨hx, gj, rfl, JD.fin hjt hd (fun k hk => .inr (by omega)) (fun k hk => .inl hk) (fun k hk _ h => by have := hS k h; omega)⟩⟩
theorem OpenPost.bad {w w9 : World} {S : Nat → Prop} {gd : Nat} {all : List (List Int)} {D' : DS} {x : Int} (hx : x = 42) (hf : Fr S w w9) (hd : DiskAt w9 S gd D') :
    OpenPost w S gd all x D' (.returned (.tuple #[.pointer none, .int .i64 42])) w9 := by
  subst hx
  exact ⟨hf, .inl ⟨by decide, rfl, hd⟩⟩
theorem truncate_code (D : DS) (n : Int) : (D.truncate n).1 = 42 ∨ (D.truncate n).1 = 1 ∨ (D.truncate n).1 = 0 := by
  unfold DS.truncate
  split
  · exact .inl rfl
  · split
    · exact .inr (.inl rfl)
    · exact .inr (.inr rfl)
theorem frame_pos (rs : List (List Int)) : 8 ≤ (frameP rs).length := by rw [frameP_length]; omega

set_option maxRecDepth 100000 in
set_option maxHeartbeats 1600000 in
theorem open_is (w : World) (S : Nat → Prop) (gd : Nat) (D D' : DS) (fs : List (List (List Int))) (all : List (List Int)) (tail B : List Int) (x : Int) (N M : Nat) (hd : DiskAt w S gd D) (hS : ∀ k, S k → k < w.heap.size) (hb : Hid (D.b = B)) (hB : Hid (B = framesP fs ++ tail)) (hN : Hid (B.length = N)) (hM : Hid ((framesP fs).length = M)) (hall : Hid (all = fs.flatten)) (hv : ∀ rs ∈ fs, VR rs)
    (ht : tail = [] ∨ (0 < tail.length ∧ (firstP tail).2.2 = false ∧ tornP tail = true))
    (hx : Hid ((x, D') = D.jopen M (decide (tail ≠ [])))) :
    Calls Try.prog 28 #[.pointer (some ⟨gd, 0, none⟩)] w (OpenPost w S gd all x D') := by
  have hN9 : N ≤ 262144 := by have h1 := hd.ok.l; have h2 := hd.ok.r1; rw [hb.out, hN.out] at h1; omega
  have hby : IsBytes B := by rw [← hb.out]; exact hd.ok.bytes
  have HD := hid hd
  have hNM : N = M + tail.length := by rw [← hN.out, hB.out, List.length_append, hM.out]
  have hall9 : ∀ j, ((fs.take j).flatten).length ≤ 16 * N := fun j => by
    have h1 : ∀ gs : List (List (List Int)), (∀ rs ∈ gs, VR rs) → gs.flatten.length ≤ 16 * (framesP gs).length := by
      intro gs
      induction gs with
      | nil => intro _; simp
      | cons rs gs ih =>
        intro hg
        have h1 := ih fun r hr => hg r (List.mem_cons_of_mem _ hr)
        have h2 := (hg rs (by simp)).n2
        have h3 := frame_pos rs
        have h4 : framesP (rs :: gs) = frameP rs ++ framesP gs := rfl
        rw [List.flatten_cons, List.length_append, h4, List.length_append]
        omega
    have h2 := h1 (fs.take j) fun r hr => hv r (List.mem_of_mem_take hr)
    have h3 := lenF_le fs j
    unfold lenF at h3
    rw [hM.out] at h3
    omega
  have HNM := hid hNM
  have hMN : M ≤ N := by omega
  clear hNM
  go_enter Try.func28, Try.ntmps28
  go_wp2_with fail
  refine (read_is _ S gd D B N hd (hid ⟨hb.out, hN.out⟩)).mono ?_
  rintro e w1 ⟨A1, c1, rfl, ho1, hb1⟩
  have hr1 := ho1.reads2.2.2
  have hc1 := ho1.reads2.2.1
  have hle := lenF_le fs
  rw [hM.out] at hle
  have hblk := blk_new w1 (.cells #[.pointer (some ⟨gd, 0, none⟩), .slice none 0 0, .bool false] 64)
  have hj0 : JAt (w1.alloc (.cells #[.pointer (some ⟨gd, 0, none⟩), .slice none 0 0, .bool false] 64)) (fun k => w1.heap.size ≤ k) w1.heap.size (.pointer (some ⟨gd, 0, none⟩)) (fs.take 0).flatten false :=
    ⟨_, hblk, Kd.N_nil _ _ _ _ _, Nat.le_refl _⟩
  have hbe0 : Below w1.heap.size w1 (w1.alloc (.cells #[.pointer (some ⟨gd, 0, none⟩), .slice none 0 0, .bool false] 64)) := (Below.refl _ _).alloc (Nat.le_refl _) _
  clear ho1 hd hblk
  generalize hgj : w1.heap.size = gj at hj0
  have HGJ := hid hgj
  go_wp2
  clear hgj
  go_loopw [6, 7, 8, 9] (fun v6 v7 v8 v9 wr => ∃ j : Nat, v6 = .int .i64 ((lenF fs j : Nat) : Int) ∧ j ≤ fs.length ∧ JAt wr (fun k => gj ≤ k) gj (.pointer (some ⟨gd, 0, none⟩)) (fs.take j).flatten false ∧ Below w1.heap.size w1 wr) (fun v6 _ _ _ _ => N - (intOf v6).toNat)
  case atStart => exact ⟨0, rfl, Nat.zero_le _, hj0, hbe0⟩
  case round =>
    clear hj0 hbe0
    obtain ⟨j, rfl, hj, hjt, hbw⟩ := hrel
    have hlj := hle j
    have hszw := hbw.size
    by_cases hlt : j < fs.length
    · have hls := lenF_succ fs j hlt
      have hl2 := hle (j + 1)
      have hfp := frame_pos fs[j]
      have hvj := hv _ (List.getElem_mem hlt)
      have hlN : lenF fs j ≤ N := by omega
      obtain ⟨A5, y1, y2, y3⟩ := sl_drop (A := A1) hr1.1 hc1 (lenF fs j) ((lenF fs j : Nat) : Int) rfl hlN
      have r5 := y2 wr (hr1.below hbw)
      have hdr : B.drop (lenF fs j) = B.drop (lenF fs j) := rfl
      obtain ⟨rest, hrest⟩ := frames_drop fs tail j hlt
      have hfr : Hid ((fs[j], ((frameP fs[j]).length : Int), true) = firstP (B.drop (lenF fs j))) := hid (by rw [hB.out, hrest, first_frame _ hvj])
      have hby5 := hby.drop (lenF fs j)
      have hts : Hid ((fs.take (j + 1)).flatten = (fs.take j).flatten ++ fs[j]) := hid (by rw [List.take_succ_eq_append_getElem hlt, List.flatten_append, List.flatten_singleton])
      have hls2 : Hid (lenF fs (j + 1) = lenF fs j + (frameP fs[j]).length) := hid hls
      have hac9 := hall9 j
      have hr16 := hvj.n2
      clear hrest hdr
      generalize B.drop (lenF fs j) = B5 at *
      generalize hfl : (frameP fs[j]).length = m at *
      generalize fs[j] = rs at *
      generalize hp : lenF fs j = p at *
      generalize (fs.take j).flatten = acc at *
      have hpN : (p : Int) < N := by omega
      go_wp2_with fail
      refine (first_is _ A5 _ _ B5 _ r5 y3 hby5 (by omega) hfr).mono ?_
      rintro e w6 ⟨v6, rfl, hN6, hb6⟩
      obtain ⟨v, hblk, hNv, hgS⟩ := hjt
      have hblk6 := blk_below hblk hb6
      have q1 : w6.cell? ⟨gj, 1, none⟩ = some v := blk_cell hblk6 1
      have fz := blk_frozen hblk6 1
      have hvne : some gj ≠ v.ownBlock := Kd.N_ne hNv hblk (by decide)
      have hvlt := Kd.N_lt hNv
      have hglt := blk_lt hblk
      have hokp : ∀ k, wr.heap.size ≤ k → (gj ≤ k ∧ k ≠ gj) ∧ some k ≠ v.ownBlock := fun k hk => ⟨⟨by omega, by omega⟩, fun e => by have := hvlt k e.symm; omega⟩
      obtain ⟨A6, c6, rfl⟩ := Kd.N_slice hN6
      have hF6 := Kd.N_F hN6
      have hNv6 := Kd.N_below hNv hb6
      go_wp2_with (at_builtin; refine Kd.N_append_rows KB (w0 := w6) 0 rfl (.tmp 35) (.tmp 36) 55 30 (.slice none 0 0) 24 rfl Try.underlying55 info30 rfl (by decide) (by decide) v acc rs A6 rs.length c6 (fun k => gj ≤ k ∧ k ≠ gj) (fun k => wr.heap.size ≤ k) rfl rfl hNv6 hF6 hokp (fun k hk => (hokp k (by have := hb6.size; omega)).1) (Below.refl _ _) (Nat.zero_le _) (by omega) ?_)
      intro v1 w8 hN8 _ hg8 _
      obtain ⟨A9, c9, rfl⟩ := Kd.N_slice hN8
      have hblk8 := blk_grown hblk6 hg8 hvne
      have y8 : w8.cell? ⟨gj, 1, none⟩ = some v := blk_cell hblk8 1
      have fz8 := blk_frozen hblk8 1
      have hb7 : Below w1.heap.size w1 w6 := hbw.trans (hb6.mono hszw)
      have hb8 : Below w1.heap.size w1 w8 := hb7.grown hg8 hb7.size fun k hk => by rw [HGJ.out]; exact (hNv.1 k hk).1
      have hb9 := hb8.setCell (p := ⟨gj, 1, none⟩) (by rw [HGJ.out]; exact Nat.le_refl _) (.slice A9 (acc ++ rs).length c9)
      have hjn : JAt (w8.setCell ⟨gj, 1, none⟩ (.slice A9 (acc ++ rs).length c9)) (fun k => gj ≤ k) gj (.pointer (some ⟨gd, 0, none⟩)) (fs.take (j + 1)).flatten false := by
        rw [hts.out]
        exact JAt.setRows hblk8 (Kd.N_mono hN8 fun k hk => hk) (Nat.le_refl _)
      rw [List.length_append] at hjn hb9
      have hpm : p + m ≤ N := by omega
      clear hN8 hg8 hblk8 hNv hNv6 hF6 hN6 hokp hvlt hvne hb6 hb7 hb8 hbw hblk hblk6 q1 fz hls hp
      go_wp2
      go_roundw
      case rel => exact ⟨j + 1, by rw [hls2.out]; go_num, by omega, hjn, hb9⟩
      case measure => simp [intOf]; omega
    · obtain rfl : j = fs.length := by omega
      have hpe : lenF fs fs.length = M := by rw [lenF_all, hM.out]
      have hal : (fs.take fs.length).flatten = all := by rw [List.take_length, hall.out]
      rw [hal] at hjt
      rw [hpe]
      have hgw : w.heap.size ≤ gj := by rw [← HGJ.out]; exact hb1.size
      have hbz : Below w.heap.size w wr := hb1.trans (hbw.mono hb1.size)
      have hdz := HD.out.move (w1 := wr) fun k _ hl => hbz.block k hl
      clear hpe hal hlj hle hlt hj
      rcases ht with ht | ⟨ht1, ht2, ht3⟩
      · have hMN2 : M = N := by rw [HNM.out, ht]; simp
        subst hMN2
        have hx2 : Hid ((x, D') = D.jopen M false) := hid (by rw [hx.out, ht]; rfl)
        clear hx
        by_cases hM0 : 0 < M
        · rcases hsy : D.sync with ⟨s, D2⟩
          have hsc := sync_code D
          rw [hsy] at hsc
          have HSY := hid hsy
          have hx3 : Hid ((x, D') = if s ≠ 0 then ((42 : Int), D2) else (0, D2)) := hid (by rw [hx2.out]; unfold DS.jopen; simp [hM0, hsy])
          clear hsy hx2
          go_wp2_with fail
          refine (sync_is _ S gd D D2 s hdz HSY).mono ?_
          rintro e w7 ⟨rfl, hd7, hf7⟩
          have hj7 := hjt.fr hf7 fun k hk h => by have := hS k h; omega
          have hfw : Fr S w w7 := (Fr.of_below (S := S) hbz).trans hf7 fun k hk => .inl hk
          clear hjt hdz hf7 hbz
          rcases hsc with rfl | rfl
          · obtain ⟨e1, e2⟩ : x = 42 ∧ D' = D2 := by
              have h := hx3.out
              rw [if_pos (by decide)] at h
              simpa using h
            have E1 := hid e1
            subst e2
            clear e1 hx3
            go_wp2
            refine bodyPost_ret (results_list (rs := [.tmp 2, .tmp 3]) rfl (by simp) (.tmp (.tmp .nil))) rfl ?_
            exact OpenPost.bad E1.out hfw hd7
          · obtain ⟨e1, e2⟩ : x = 0 ∧ D' = D2 := by
              have h := hx3.out
              rw [if_neg (by decide)] at h
              simpa using h
            have E1 := hid e1
            subst e2
            clear e1 hx3
            go_wp2
            refine bodyPost_ret (results_list (rs := [.tmp 2, .tmp 3]) rfl (by simp) (.tmp (.tmp .nil))) rfl ?_
            exact OpenPost.good E1.out hfw hj7 hd7 hS hgw
        · obtain ⟨e1, e2⟩ : x = 0 ∧ D' = D := by
            have h := hx2.out
            unfold DS.jopen at h
            simp [hM0] at h
            exact h
          have E1 := hid e1
          subst e2
          clear e1 hx2
          go_wp2
          refine bodyPost_ret (results_list (rs := [.tmp 2, .tmp 3]) rfl (by simp) (.tmp (.tmp .nil))) rfl ?_
          exact OpenPost.good E1.out (Fr.of_below hbz) hjt hdz hS hgw
      · have hlt2 : M < N := by rw [HNM.out]; omega
        have hend : B.drop M = tail := by rw [hB.out, ← hM.out, List.drop_left]
        obtain ⟨A5, y1, y2, y3⟩ := sl_drop (A := A1) hr1.1 hc1 M (M : Int) rfl hMN
        have r5 := y2 wr (hr1.below hbw)
        rw [hend] at r5
        have hbt : IsBytes tail := by rw [← hend]; exact hby.drop M
        rcases hfp : firstP tail with ⟨fa, fb, fc⟩
        have hfc : fc = false := by rw [hfp] at ht2; exact ht2
        subst hfc
        have HFP := hid hfp.symm
        have HT := hid ht3.symm
        have hne : tail ≠ [] := fun h => by rw [h] at ht1; simp at ht1
        rcases htr : D.truncate M with ⟨r, D1⟩
        have htc := truncate_code D M
        rw [htr] at htc
        have HTR := hid htr
        have hx1 : Hid ((x, D') = if r ≠ 0 then ((42 : Int), D1) else (if (if 0 < M then D1.sync else (0, D1)).1 ≠ 0 then (42, (if 0 < M then D1.sync else (0, D1)).2) else (0, (if 0 < M then D1.sync else (0, D1)).2))) := hid (by rw [hx.out]; unfold DS.jopen; simp [hne, htr])
        clear hend hfp ht3 ht2 htr hne hx y2
        have hM1 : (M : Int) < N := by omega
        go_wp2_with fail
        refine (first_is _ A5 _ _ tail _ r5 y3 hbt (by omega) HFP).mono ?_
        rintro e w6 ⟨v6, rfl, _, hb6⟩
        have r6 := r5.below hb6
        have hj6 := hjt.move (w1 := w6) fun k _ hl => hb6.block k hl
        have hd6 := hdz.move (w1 := w6) fun k _ hl => hb6.block k hl
        have hbz6 : Below w.heap.size w w6 := hbz.trans (hb6.mono hbz.size)
        clear hjt hdz hb6 r5 hbz
        have hNM0 : 0 < N - M := by omega
        go_wp2_with fail
        refine (torn_is _ A5 _ _ tail true r6 y3 hbt (by omega) hNM0 HT).mono ?_
        rintro e w7 ⟨rfl, hb7⟩
        have hj7 := hj6.move (w1 := w7) fun k _ hl => hb7.block k hl
        have hd7 := hd6.move (w1 := w7) fun k _ hl => hb7.block k hl
        have hbz7 : Below w.heap.size w w7 := hbz6.trans (hb7.mono hbz6.size)
        clear hj6 hd6 hb7 r6 hbz6 y1 y3
        go_wp2_with fail
        refine (truncate_is _ S gd D D1 (M : Int) r hd7 HTR).mono ?_
        rintro e w8 ⟨rfl, hd8, hf8⟩
        have hj8 := hj7.fr hf8 fun k hk h => by have := hS k h; omega
        have hfw : Fr S w w8 := (Fr.of_below (S := S) hbz7).trans hf8 fun k hk => .inl hk
        clear hj7 hd7 hf8 hbz7
        have hj7 := hj8
        have hd7 := hd8
        clear hj8 hd8
        have hbadr : r = 42 ∨ r = 1 → x = 42 ∧ D' = D1 := fun h => by
          have h2 := hx1.out
          rw [if_pos (by rcases h with rfl | rfl <;> decide)] at h2
          simpa using h2
        rcases htc with rfl | rfl | rfl
        · obtain ⟨e1, e2⟩ := hbadr (.inl rfl)
          have E1 := hid e1
          subst e2
          clear e1 hx1 hbadr
          go_wp2
          refine bodyPost_ret (results_list (rs := [.tmp 2, .tmp 3]) rfl (by simp) (.tmp (.tmp .nil))) rfl ?_
          exact OpenPost.bad E1.out hfw hd7
        · obtain ⟨e1, e2⟩ := hbadr (.inr rfl)
          have E1 := hid e1
          subst e2
          clear e1 hx1 hbadr
          go_wp2
          refine bodyPost_ret (results_list (rs := [.tmp 2, .tmp 3]) rfl (by simp) (.tmp (.tmp .nil))) rfl ?_
          exact OpenPost.bad E1.out hfw hd7
        · clear hbadr
          have hx2 : Hid ((x, D') = (if (if 0 < M then D1.sync else (0, D1)).1 ≠ 0 then (42, (if 0 < M then D1.sync else (0, D1)).2) else (0, (if 0 < M then D1.sync else (0, D1)).2))) := hid (by rw [hx1.out, if_neg (by decide)])
          clear hx1
          by_cases hM0 : 0 < M
          · rcases hsy : D1.sync with ⟨s, D2⟩
            have hsc := sync_code D1
            rw [hsy] at hsc
            have HSY := hid hsy
            have hx3 : Hid ((x, D') = if s ≠ 0 then ((42 : Int), D2) else (0, D2)) := hid (by rw [hx2.out]; simp [hM0, hsy])
            clear hsy hx2
            go_wp2_with fail
            refine (sync_is _ S gd D1 D2 s hd7 HSY).mono ?_
            rintro e w9 ⟨rfl, hd9, hf9⟩
            have hj9 := hj7.fr hf9 fun k hk h => by have := hS k h; omega
            have hfw9 : Fr S w w9 := hfw.trans hf9 fun k hk => .inl hk
            clear hj7 hd7 hf9 hfw
            rcases hsc with rfl | rfl
            · obtain ⟨e1, e2⟩ : x = 42 ∧ D' = D2 := by
                have h := hx3.out
                rw [if_pos (by decide)] at h
                simpa using h
              have E1 := hid e1
              subst e2
              clear e1 hx3
              go_wp2
              refine bodyPost_ret (results_list (rs := [.tmp 2, .tmp 3]) rfl (by simp) (.tmp (.tmp .nil))) rfl ?_
              exact OpenPost.bad E1.out hfw9 hd9
            · obtain ⟨e1, e2⟩ : x = 0 ∧ D' = D2 := by
                have h := hx3.out
                rw [if_neg (by decide)] at h
                simpa using h
              have E1 := hid e1
              subst e2
              clear e1 hx3
              go_wp2
              refine bodyPost_ret (results_list (rs := [.tmp 2, .tmp 3]) rfl (by simp) (.tmp (.tmp .nil))) rfl ?_
              exact OpenPost.good E1.out hfw9 hj9 hd9 hS hgw
          · obtain ⟨e1, e2⟩ : x = 0 ∧ D' = D1 := by
              have h := hx2.out
              simp [hM0] at h
              exact h
            have E1 := hid e1
            subst e2
            clear e1 hx2
            go_wp2
            refine bodyPost_ret (results_list (rs := [.tmp 2, .tmp 3]) rfl (by simp) (.tmp (.tmp .nil))) rfl ?_
            exact OpenPost.good E1.out hfw hj7 hd7 hS hgw
end Go.Proofs.Ytnakolpaabpifaa
