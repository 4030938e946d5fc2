/- A journal's Append. -/
import Derived.Test.YtnakolpaabpifaaJ11
import Derived.StillTailTactics
set_option linter.unusedVariables false
set_option linter.unusedSimpArgs false
namespace Go.Proofs.Ytnakolpaabpifaa
open Go.RowKit Go.Proofs.YtnakolpaabpifaaW.PrintWords Go.Proofs.YtnakolpaabpifaaW.PrintLast

/-- A journal on a disk, apart from each other. -/
def JD (w : World) (S : Nat → Prop) (gj gd : Nat) (all : List (List Int)) (dead : Bool) (D : DS) : Prop :=
  ∃ Sj Sd : Nat → Prop, JAt w Sj gj (.pointer (some ⟨gd, 0, none⟩)) all dead ∧ DiskAt w Sd gd D ∧ (∀ k, Sj k → S k ∧ k < w.heap.size) ∧ (∀ k, Sd k → S k ∧ k < w.heap.size) ∧ ∀ k, Sj k → ¬ Sd k
theorem JD.mono {w : World} {S S1 : Nat → Prop} {gj gd : Nat} {all : List (List Int)} {dead : Bool} {D : DS} (h : JD w S gj gd all dead D) (hs : ∀ k, S k → S1 k) : JD w S1 gj gd all dead D := by
  obtain ⟨Sj, Sd, h1, h2, h3, h4, h5⟩ := h
  exact ⟨Sj, Sd, h1, h2, fun k hk => ⟨hs k (h3 k hk).1, (h3 k hk).2⟩, fun k hk => ⟨hs k (h4 k hk).1, (h4 k hk).2⟩, h5⟩
theorem JD.move {w w1 : World} {S : Nat → Prop} {gj gd : Nat} {all : List (List Int)} {dead : Bool} {D : DS} (h : JD w S gj gd all dead D) (hsz : w.heap.size ≤ w1.heap.size) (hm : ∀ k, S k → k < w.heap.size → w1.heap[k]? = w.heap[k]?) : JD w1 S gj gd all dead D := by
  obtain ⟨Sj, Sd, h1, h2, h3, h4, h5⟩ := h
  exact ⟨Sj, Sd, h1.move fun k hk hl => hm k (h3 k hk).1 hl, h2.move fun k hk hl => hm k (h4 k hk).1 hl, fun k hk => ⟨(h3 k hk).1, by have := (h3 k hk).2; omega⟩, fun k hk => ⟨(h4 k hk).1, by have := (h4 k hk).2; omega⟩, h5⟩
theorem JD.ok {w : World} {S : Nat → Prop} {gj gd : Nat} {all : List (List Int)} {dead : Bool} {D : DS} (h : JD w S gj gd all dead D) : D.ok := by
  obtain ⟨Sj, Sd, h1, h2, h3, h4, h5⟩ := h
  exact h2.ok

theorem JAt.setDead {w : World} {S : Nat → Prop} {g : Nat} {dv : Value} {all : List (List Int)} {dead : Bool} (h : JAt w S g dv all dead) (b : Bool) : JAt (w.setCell ⟨g, 2, none⟩ (.bool b)) S g dv all b := by
  obtain ⟨v, h1, h2, h3⟩ := h
  exact ⟨v, blk_set h1 2 _, Kd.N_far h2 (p := ⟨g, 2, none⟩) (fun k hk => hk.2) _, h3⟩
theorem JAt.setRows {w : World} {S : Nat → Prop} {g : Nat} {dv v v1 : Value} {all : List (List Int)} {dead : Bool} (h1 : w.heap[g]? = some (.cells #[dv, v, .bool dead] 64 (0, 0))) (h2 : Rows w (fun k => S k ∧ k ≠ g) v1 all) (h3 : S g) : JAt (w.setCell ⟨g, 1, none⟩ v1) S g dv all dead :=
  ⟨v1, blk_set h1 1 _, Kd.N_far h2 (p := ⟨g, 1, none⟩) (fun k hk => hk.2) _, h3⟩
/-- The two at the end of a call. -/
theorem JD.fin {w w1 : World} {S Sj Sd : Nat → Prop} {gj gd : Nat} {all : List (List Int)} {dead : Bool} {D : DS} (hj : JAt w1 Sj gj (.pointer (some ⟨gd, 0, none⟩)) all dead) (hd : DiskAt w1 Sd gd D) (h3 : ∀ k, Sj k → Ext S w k) (h4 : ∀ k, Sd k → Ext S w k) (h5 : ∀ k, Sj k → k < w1.heap.size → ¬ Sd k) : JD w1 (Ext S w) gj gd all dead D :=
  ⟨_, _, hj.bound, hd.bound, fun k hk => ⟨h3 k hk.1, hk.2⟩, fun k hk => ⟨h4 k hk.1, hk.2⟩, fun k hk h => h5 k hk.1 hk.2 h.1⟩

theorem append_code (D : DS) (F : List Int) : (D.append F).1 = 42 ∨ (D.append F).1 = 43 ∨ (D.append F).1 = 0 := by
  unfold DS.append
  split
  · exact .inl rfl
  · split
    · exact .inr (.inl rfl)
    · exact .inr (.inr rfl)
theorem sync_code (D : DS) : D.sync.1 = 42 ∨ D.sync.1 = 0 := by
  unfold DS.sync
  split
  · exact .inl rfl
  · exact .inr rfl

/-- What Append does to the disk, its answer, and whether the journal is dead behind it. -/
def DS.jappend (D : DS) (F : List Int) : Int × Bool × DS :=
  if (D.append F).1 = 43 then (43, false, (D.append F).2)
  else if (D.append F).1 ≠ 0 then (42, true, (D.append F).2)
  else if (D.append F).2.sync.1 ≠ 0 then (42, true, (D.append F).2.sync.2)
  else (0, false, (D.append F).2.sync.2)

/-- The disk takes the frame that was just made. -/
theorem append_own (w w1 W : World) (S : Nat → Prop) (g : Nat) (D D1 : DS) (r : Int) (F : List Int) (A : Option Addr) (m c : Nat) (hd : DiskAt w S g D) (hS : ∀ k, S k → k < w.heap.size) (hb : Below w.heap.size w w1)
    (ho : OwnB w1 (fun k => w.heap.size ≤ k) (.slice A m c) F) (hF : IsBytes F) (hh : Hid (D.append F = (r, D1))) (hW : W.heap = w1.heap) :
    Calls Try.prog 15 #[.pointer (some ⟨g, 0, none⟩), .slice A m c] W fun e w' => e = .returned (.int .i64 r) ∧ DiskAt w' (Ext S W) g D1 ∧ Fr S W w' := by
  have ho' := ho.move (w1 := W) fun k _ _ => by rw [hW]
  refine append_is W S g D D1 r (hd.move fun k hk hl => by rw [hW]; exact hb.block k hl) A m c F ho'.reads2.2.2 ho'.reads2.2.1 (fun ad e hp hs => ?_) hF hh
  have h1 := hS _ hs
  subst e
  have h2 : w.heap.size ≤ ad.block := ho.2 ad.block rfl
  omega

set_option maxRecDepth 100000 in
set_option maxHeartbeats 1000000 in
theorem append_live (x : Int) (dd : Bool) (D' : DS) (all' : List (List Int)) (w : World) (S Sj Sd okp : Nat → Prop) (gj gd : Nat) (all rs : List (List Int)) (D D1 : DS) (r : Int) (F : List Int) (A : Option Addr) (n c : Nat)
    (hj : JAt w Sj gj (.pointer (some ⟨gd, 0, none⟩)) all false) (hd : DiskAt w Sd gd D) (hSj : ∀ k, Sj k → S k ∧ k < w.heap.size) (hSd : ∀ k, Sd k → S k ∧ k < w.heap.size) (hdis : ∀ k, Sj k → ¬ Sd k)
    (hr : Kd.F KB w okp A n rs) (hok : ∀ k, okp k → ¬ S k ∧ k < w.heap.size) (hc : n ≤ c) (hv : VR rs) (hF : Hid (frameP rs = F)) (hh : Hid (D.append F = (r, D1))) (hx : Hid ((x, dd, D') = D.jappend F)) (hall : Hid (all' = if x = 0 then all ++ rs else all)) (hall9 : all.length ≤ 1000000000) :
    Calls Try.prog 30 #[.pointer (some ⟨gj, 0, none⟩), .slice A n c] w fun e w' => e = .returned (.int .i64 x) ∧ JD w' (Ext S w) gj gd all' dd D' ∧ Fr S w w' := by
  have hC := Kd.F_now hr
  have hn : rs.length = n := hC.1
  have hn1 := hv.n1
  have hn2 := hv.n2
  have hbF : IsBytes F := by rw [← hF.out]; exact hv.frameBytes
  have hne : Hid (false = true ↔ ∃ r ∈ rs, 4096 < r.length) := hid ⟨fun h => by simp at h, fun ⟨r, hr, hl⟩ => by have := hv.len r hr; omega⟩
  have hgj : Sj gj := by obtain ⟨_, _, _, h⟩ := hj; exact h
  have HJ := hid hj
  have HD := hid hd
  have HR := hid hr
  have hm9 : ∀ r ∈ rs, r.length ≤ 1000000000 := fun r hr => by have := hv.len r hr; omega
  have HC := hid hC
  clear hj hd hr hC
  go_enter Try.func30, Try.ntmps30
  go_wp2_with fail
  refine (contains_is _ _ _ _ rs false HC.out hc (by omega) hm9 hne).mono ?_
  rintro e w1 ⟨rfl, hb1⟩
  have hj1 := HJ.out.move (w1 := w1) fun k _ hl => hb1.block k hl
  go_wp2_with fail
  refine (dead_any _ _ _ _ _ _ hj1).mono ?_
  rintro e w2 ⟨rfl, rfl⟩
  obtain ⟨Aj, cj, q0, _, _, _, _⟩ := hj1.open
  have hd1 := HD.out.move (w1 := w1) fun k _ hl => hb1.block k hl
  have hSd1 : ∀ k, Sd k → k < w1.heap.size := fun k hk => by have := (hSd k hk).2; have := hb1.size; omega
  have hC1 := Kd.C_below HC.out hb1
  have HC1 : ∀ m, Kd.C KB (w1.drewN m) A n rs := fun m => Kd.C_below hC1 (pw_below_drewN (Below.refl _ _) m)
  go_wp2
  go_region_held3 (fun w' => w'.cell? ⟨gj, 0, none⟩ = some (.pointer (some ⟨gd, 0, none⟩)))
    (first | exact y0 | exact q0 | go_keep)
    ((first
      | (go_at_call 46; refine (frame_is _ _ _ _ rs F (HC1 _) hc hv hF).mono ?_; rintro e w3 ⟨A1, c1, rfl, ho1, hb2⟩; have hb3 : Below w1.heap.size w1 w3 := ⟨hb2.os, hb2.tape, hb2.output, hb2.size, hb2.block⟩; have y0 := pw_cell_below hb2 q0)
      | (go_at_call 15; refine (append_own _ _ _ Sd gd D D1 r F A1 F.length c1 hd1 hSd1 hb3 ho1 hbF hh rfl).mono ?_; rintro e w4 ⟨rfl, hd4, hf4⟩; have y0 := Fr.cell hf4 y0 (fun h => hdis gj hgj h))))
  clear y0
  have hb4 : Below w.heap.size w w3 := hb1.trans (hb3.mono hb1.size)
  have hj4 : JAt w4 Sj gj (.pointer (some ⟨gd, 0, none⟩)) all false := (HJ.out.move (w1 := w3) fun k _ hl => hb4.block k hl).fr hf4 hdis
  have hf5 : Fr S w w4 := (Fr.of_below hb4).trans hf4 fun k hk => .inl (hSd k hk).1
  have hd5 := hd4.mono (S1 := Ext Sd w) fun k hk => by rcases hk with hk | hk; exact .inl hk; exact .inr (by have := hb4.size; omega)
  have hd6 : ∀ k, Sj k → ¬ Ext Sd w k := fun k hk h => by rcases h with h | h; exact hdis k hk h; have := (hSj k hk).2; omega
  have hsj : ∀ k, Sj k → Ext S w k := fun k hk => .inl (hSj k hk).1
  have hsd : ∀ k, Ext Sd w k → Ext S w k := fun k hk => by rcases hk with hk | hk; exact .inl (hSd k hk).1; exact .inr hk
  have hcode := append_code D F
  rw [hh.out] at hcode
  clear hd4 hf4 ho1 hb2 hb3 hd1 hj1 hC1 HC1 q0 HC
  rcases hcode with rfl | rfl | rfl
  · obtain ⟨rfl, rfl, rfl⟩ : x = 42 ∧ dd = true ∧ D' = D1 := by
      have h : (x, dd, D') = ((42 : Int), true, D1) := by rw [hx.out]; unfold DS.jappend; simp [hh.out]
      simpa using h
    have hal : Hid (all' = all) := hid (by rw [hall.out, if_neg (by decide)])
    have hbk := hj4.setDead true
    obtain ⟨vj, hblk, _, _⟩ := hj4
    have q2 : w4.cell? ⟨gj, 2, none⟩ = some (.bool false) := blk_cell hblk 2
    have fz := blk_frozen hblk 2
    have hd7 : DiskAt (w4.setCell ⟨gj, 2, none⟩ (.bool true)) (Ext Sd w) gd D' := hd5.move fun k hk hl => Below.heap_setCell _ _ _ _ (fun e => hd6 gj hgj (by rw [show k = gj from e] at hk; exact hk))
    have hf7 := hf5.set (p := ⟨gj, 2, none⟩) (hSj gj hgj).1 (.bool true)
    have hjd := JD.fin hbk hd7 hsj hsd (fun k hk _ => hd6 k hk)
    go_wp2
    go_ret
    exact ⟨rfl, by rw [hal.out]; exact hjd, hf7⟩
  · obtain ⟨rfl, rfl, rfl⟩ : x = 43 ∧ dd = false ∧ D' = D1 := by
      have h : (x, dd, D') = ((43 : Int), false, D1) := by rw [hx.out]; unfold DS.jappend; simp [hh.out]
      simpa using h
    have hal : Hid (all' = all) := hid (by rw [hall.out, if_neg (by decide)])
    have hjd := JD.fin hj4 hd5 hsj hsd (fun k hk _ => hd6 k hk)
    go_wp2
    go_ret
    exact ⟨rfl, by rw [hal.out]; exact hjd, hf5⟩
  · rcases hsy : D1.sync with ⟨s, D2⟩
    have hsc := sync_code D1
    have HS := hid hsy
    rw [hsy] at hsc
    have hja : Hid ((x, dd, D') = if s ≠ 0 then ((42 : Int), true, D2) else (0, false, D2)) := hid (by rw [hx.out]; unfold DS.jappend; simp [hh.out, hsy])
    clear hx
    clear hsy
    have q0 := Hid.out (hid (show w4.cell? ⟨gj, 0, none⟩ = some (.pointer (some ⟨gd, 0, none⟩)) by obtain ⟨_, _, q, _⟩ := hj4.open; exact q))
    go_wp2_with fail
    refine (sync_is _ _ gd D1 D2 s hd5 HS).mono ?_
    rintro e w5 ⟨rfl, hd7, hf7⟩
    have hj5 := hj4.fr hf7 hd6
    have hf8 : Fr S w w5 := hf5.trans hf7 fun k hk => by rcases hk with hk | hk; exact .inl (hSd k hk).1; exact .inr hk
    clear q0 hf7 hd5 hj4
    rcases hsc with rfl | rfl
    · obtain ⟨rfl, rfl, rfl⟩ : x = 42 ∧ dd = true ∧ D' = D2 := by
        have h := hja.out
        rw [if_pos (by decide)] at h
        simpa using h
      have hal : Hid (all' = all) := hid (by rw [hall.out, if_neg (by decide)])
      have hbk := hj5.setDead true
      obtain ⟨vj, hblk, _, _⟩ := hj5
      have q2 : w5.cell? ⟨gj, 2, none⟩ = some (.bool false) := blk_cell hblk 2
      have fz := blk_frozen hblk 2
      have hd8 : DiskAt (w5.setCell ⟨gj, 2, none⟩ (.bool true)) (Ext Sd w) gd D' := hd7.move fun k hk hl => Below.heap_setCell _ _ _ _ (fun e => hd6 gj hgj (by rw [show k = gj from e] at hk; exact hk))
      have hf9 := hf8.set (p := ⟨gj, 2, none⟩) (hSj gj hgj).1 (.bool true)
      have hjd := JD.fin hbk hd8 hsj hsd (fun k hk _ => hd6 k hk)
      go_wp2
      go_ret
      exact ⟨rfl, by rw [hal.out]; exact hjd, hf9⟩
    · obtain ⟨rfl, rfl, rfl⟩ : x = 0 ∧ dd = false ∧ D' = D2 := by
        have h := hja.out
        rw [if_neg (by decide)] at h
        simpa using h
      have hal : Hid (all' = all ++ rs) := hid (by rw [hall.out, if_pos rfl])
      clear hja hall HS
      have hr5 : Kd.F KB w5 okp A n rs := Kd.F_step HR.out fun k hk hl => hf8.block k hl (hok k hk).1
      have hd5 := hd7.bound
      have hsz5 := hf8.size
      have hdis5 : ∀ k, (Sj k ∨ w5.heap.size ≤ k) → ¬ (Ext Sd w k ∧ k < w5.heap.size) := fun k hk h => by
        rcases hk with hk | hk
        · exact hd6 k hk h.1
        · have := h.2; omega
      have HD5 := hid hd5
      clear hd5 hd7
      go_wp2
      go_loopw [7, 45] (fun v7 v45 wr => ∃ j : Nat, v45 = .int .i64 j ∧ j ≤ n ∧ JAt wr (fun k => Sj k ∨ w5.heap.size ≤ k) gj (.pointer (some ⟨gd, 0, none⟩)) (all ++ rs.take j) false ∧ Fr Sj w5 wr) (fun _ v45 _ => n - (intOf v45).toNat)
      case atStart => exact ⟨0, rfl, Nat.zero_le _, by rw [List.take_zero, List.append_nil]; exact hj5.mono fun k hk => .inl hk, Fr.refl _ _⟩
      case round =>
        clear hj5
        obtain ⟨j, rfl, hj, hjt, hfw⟩ := hrel
        by_cases hlt : j < n
        · have hrw : Kd.C KB wr A n rs := Kd.F_now (Kd.F_step hr5 fun k hk hl => hfw.block k hl (fun h => (hok k hk).1 (hSj k h).1))
          obtain ⟨ad, A0, c0, rfl, q5, hmc, hrd0⟩ := row_at hrw j (by omega)
          have hmr := hv.len _ (List.getElem_mem (show j < rs.length by omega))
          have hts : Hid (all ++ rs.take (j + 1) = (all ++ rs.take j) ++ [rs[j]'(by omega)]) := hid (by rw [List.take_succ_eq_append_getElem (by omega), List.append_assoc])
          have hrd : ReadsInt wr.drew .u8 A0 (rs[j]'(by omega)).length (rs[j]'(by omega)) := hrd0.below (below_drew (Below.refl _ _))
          clear hrd0 hrw
          generalize rs[j]'(by omega) = r at *
          generalize hm : r.length = m at *
          generalize hacc : all ++ rs.take j = acc at *
          have hml : m ≤ 140737488355328 := by omega
          obtain ⟨v, hblk, hN, hgS⟩ := hjt
          have q1 : wr.cell? ⟨gj, 1, none⟩ = some v := blk_cell hblk 1
          have hvne : some gj ≠ v.ownBlock := Kd.N_ne hN hblk (by decide)
          have hvlt := Kd.N_lt hN
          have hglt := blk_lt hblk
          have hszw := hfw.size
          have hokp : ∀ k, wr.heap.size ≤ k → ((Sj k ∨ w5.heap.size ≤ k) ∧ k ≠ gj) ∧ some k ≠ v.ownBlock := fun k hk => ⟨⟨.inr (by omega), by omega⟩, fun e => by have := hvlt k e.symm; omega⟩
          have hfresh : ∀ k, wr.heap.size ≤ k → ((Sj k ∨ w5.heap.size ≤ k) ∧ k ≠ gj) := fun k hk => (hokp k hk).1
          have hal9 : (acc.length + 1) * 24 ≤ 140737488355328 := by rw [← hacc, List.length_append, List.length_take]; omega
          go_wp2
          refine start_ (n := 12) (S := fun w' => w'.cell? ⟨gj, 1, none⟩ = some v) (ds := [11]) #[false, false, false, false, false, false, false, false, false, false, false, false] (by kernel_rfl) rfl rfl (q1) (fun hHeld => ?_)
          refine pure_ (i := 0) (N := some 49) (v := ?_) (a' := ?_) #[true, false, false, false, false, false, false, false, false, false, false, false] rfl rfl (by kernel_rfl) (fun _ _ _ h => h) (Or.inl ⟨by rfl, ?_⟩) ?_ ?_
          rotate_left
          · intro w'
            go_simp
            with_reducible rfl
          rotate_left
          · simp only [Act.put, List.setIfInBounds_toArray, List.set_cons_zero, List.set_cons_succ, i64_w, i32_w]
            rfl
          refine pure_ (i := 1) (N := some 50) (v := ?_) (a' := ?_) #[true, true, false, false, false, false, false, false, false, false, false, false] rfl rfl (by kernel_rfl) (fun _ _ _ h => h) (Or.inl ⟨by rfl, ?_⟩) ?_ ?_
          rotate_left
          · intro w'
            go_simp
            with_reducible rfl
          rotate_left
          · simp only [Act.put, List.setIfInBounds_toArray, List.set_cons_zero, List.set_cons_succ, i64_w, i32_w]
            rfl
          refine pure_ (i := 2) (N := some 51) (v := ?_) (a' := ?_) #[true, true, true, false, false, false, false, false, false, false, false, false] rfl rfl (by kernel_rfl) (fun _ _ _ h => h) (Or.inl ⟨by rfl, ?_⟩) ?_ ?_
          rotate_left
          · intro w'
            go_simp
            with_reducible rfl
          rotate_left
          · simp only [Act.put, List.setIfInBounds_toArray, List.set_cons_zero, List.set_cons_succ, i64_w, i32_w]
            rfl
          refine pure_ (i := 3) (N := some 52) (v := ?_) (a' := ?_) #[true, true, true, true, false, false, false, false, false, false, false, false] rfl rfl (by kernel_rfl) (fun _ _ _ h => h) (Or.inl ⟨by rfl, ?_⟩) ?_ ?_
          rotate_left
          · intro w'
            go_simp
            with_reducible rfl
          rotate_left
          · simp only [Act.put, List.setIfInBounds_toArray, List.set_cons_zero, List.set_cons_succ, i64_w, i32_w]
            rfl
          refine pure_ (i := 5) (N := some 54) (v := ?_) (a' := ?_) #[true, true, true, true, false, true, false, false, false, false, false, false] rfl rfl (by kernel_rfl) (fun _ _ _ h => h) (Or.inl ⟨by rfl, ?_⟩) ?_ ?_
          rotate_left
          · intro w'
            go_simp
            with_reducible rfl
          rotate_left
          · simp only [Act.put, List.setIfInBounds_toArray, List.set_cons_zero, List.set_cons_succ, i64_w, i32_w]
            rfl
          refine take_ (i := 4) (N := some 53) (v := ?_) (a' := ?_) #[true, true, true, true, true, true, false, false, false, false, false, false] rfl rfl (by kernel_rfl) (fun _ _ _ h => h) (Or.inl ⟨by rfl, ?_⟩) hHeld ?_ ?_
          rotate_left
          · intro w' s0
            go_simp
            with_reducible rfl
          rotate_left
          · simp only [Act.put, List.setIfInBounds_toArray, List.set_cons_zero, List.set_cons_succ, i64_w, i32_w]
            rfl
          refine one_ (i := 6) (N := some 55) #[true, true, true, true, true, true, true, false, false, false, false, false] rfl rfl (by kernel_rfl) (by decide) (fun K hK => ?_)
          refine goes_ Try.func37 (by kernel_rfl) rfl #[Value.slice A0 m c0] (by rfl) rfl rfl (by simp only [List.map_toArray, List.map_cons, List.map_nil]; rfl) ?_
          with_reducible refine (clone_any _ A0 _ c0 r hrd hmc hml).mono ?_
          rintro e w6 ⟨A3, c3, rfl, ho6, hb6⟩
          refine ⟨_, rfl, ?_⟩
          have hb9 : Below wr.heap.size wr w6 := ⟨hb6.os, hb6.tape, hb6.output, hb6.size, hb6.block⟩
          have y6 := pw_cell_below hb6 q1
          refine hK.out _ _ (y6) (fun hHeld => ?_)
          clear hK K
          refine norm_ (a' := ?_) ?_ ?_
          rotate_left
          · show Act.put _ (some 55) _ = _
            simp only [Act.put, List.setIfInBounds_toArray, List.set_cons_zero, List.set_cons_succ, i64_w, i32_w]
            rfl
          refine one_ (i := 7) (N := some 56) #[true, true, true, true, true, true, true, true, false, false, false, false] rfl rfl (by kernel_rfl) (by decide) (fun K hK => ?_)
          refine value_ (w1 := ?_) (v := ?_) (by rfl) rfl ?_ ?_
          rotate_left 2
          · go_simp
            constructor
            · rfl
            · rfl
          have y7 : (w6.alloc (.cells #[.slice A3 m c3] 30)).cell? ⟨gj, 1, none⟩ = some v := pw_cell_below ((Below.refl _ _).alloc (Nat.le_refl _) _) y6
          refine hK.out _ _ (y7) (fun hHeld => ?_)
          clear hK K
          refine norm_ (a' := ?_) ?_ ?_
          rotate_left
          · show Act.put _ (some 56) _ = _
            simp only [Act.put, List.setIfInBounds_toArray, List.set_cons_zero, List.set_cons_succ, i64_w, i32_w]
            rfl
          refine one_ (i := 8) (N := some 57) #[true, true, true, true, true, true, true, true, true, false, false, false] rfl rfl (by kernel_rfl) (by decide) (fun K hK => ?_)
          refine Kd.N_append_step KB (w0 := wr) 0 (by rfl) (.tmp 53) (.tmp 56) 55 30 (.slice none 0 0) 24 rfl Try.underlying55 info30 rfl (by decide) (by decide) v acc r [.slice A3 m c3] (fun k => (Sj k ∨ w5.heap.size ≤ k) ∧ k ≠ gj) (fun k => wr.heap.size ≤ k) rfl rfl ho6.fk hokp (fun k hk => hfresh k (by have := hb6.size; exact Nat.le_trans this hk)) (Kd.N_below hN hb9) ⟨hb6.os, hb6.tape, hb6.output, hb6.size, fun k hk => absurd hk (Nat.not_lt_zero _)⟩ (Nat.zero_le _) hal9 ?_
          intro v1 w8 hN8 _ hg8 _
          obtain ⟨A9, c9, rfl⟩ := Kd.N_slice hN8
          have hblk8 := blk_grown (blk_below hblk hb9) hg8 hvne
          have y8 : w8.cell? ⟨gj, 1, none⟩ = some v := blk_cell hblk8 1
          have fz8 := blk_frozen hblk8 1
          refine hK.out _ _ (y8) (fun hHeld => ?_)
          clear hK K
          refine norm_ (a' := ?_) ?_ ?_
          rotate_left
          · show Act.put _ (some 57) _ = _
            simp only [Act.put, List.setIfInBounds_toArray, List.set_cons_zero, List.set_cons_succ, i64_w, i32_w]
            rfl
          refine pure_ (i := 9) (N := some 58) (v := ?_) (a' := ?_) #[true, true, true, true, true, true, true, true, true, true, false, false] rfl rfl (by kernel_rfl) (fun _ _ _ h => h) (Or.inl ⟨by rfl, ?_⟩) ?_ ?_
          rotate_left
          · intro w'
            go_simp
            with_reducible rfl
          rotate_left
          · simp only [Act.put, List.setIfInBounds_toArray, List.set_cons_zero, List.set_cons_succ, i64_w, i32_w]
            rfl
          refine pure_ (i := 10) (N := some 59) (v := ?_) (a' := ?_) #[true, true, true, true, true, true, true, true, true, true, true, false] rfl rfl (by kernel_rfl) (fun _ _ _ h => h) (Or.inl ⟨by rfl, ?_⟩) ?_ ?_
          rotate_left
          · intro w'
            go_simp
            with_reducible rfl
          rotate_left
          · simp only [Act.put, List.setIfInBounds_toArray, List.set_cons_zero, List.set_cons_succ, i64_w, i32_w]
            rfl
          refine last_ (i := 11) (N := none) #[true, true, true, true, true, true, true, true, true, true, true, true] rfl rfl (by kernel_rfl) (by decide) (fun K hK => ?_)
          refine skip_ (w1 := ?_) (by rfl) rfl ?_ ?_
          rotate_left
          · go_simp
            rfl
          refine hK.out _ _ ?_
          clear hK K
          refine done_ (by kernel_rfl) ?_


          have hfw2 : Fr Sj w5 w8 := (hfw.trans (Fr.of_below (S := Sj) hb9) (fun k hk => .inl hk)).grown hg8 fun k hk => (hN.1 k hk).1
          have hfw3 := hfw2.set (p := ⟨gj, 1, none⟩) hgj (.slice A9 (acc ++ [r]).length c9)
          have hjn : JAt (w8.setCell ⟨gj, 1, none⟩ (.slice A9 (acc ++ [r]).length c9)) (fun k => Sj k ∨ w5.heap.size ≤ k) gj (.pointer (some ⟨gd, 0, none⟩)) (all ++ rs.take (j + 1)) false := by
            rw [hts.out]
            exact JAt.setRows hblk8 hN8 hgS
          rw [List.length_append, List.length_singleton] at hjn hfw3
          clear hN8 hg8 hblk8 hN hb6 hb9 ho6 hrd hblk hokp hfresh hvlt hvne hfw hfw2 q1 y8 fz8
          go_wp2
          go_roundw
          case rel => exact ⟨j + 1, by go_num, by omega, hjn, hfw3⟩
          case measure => simp [intOf]; omega
        · obtain rfl : j = n := by omega
          have htk : rs.take j = rs := by rw [← hn, List.take_length]
          rw [htk] at hjt
          have hdn := HD5.out.fr hfw fun k hk h => hdis5 k (.inl h) hk
          have hfin : Fr S w wr := hf8.trans hfw fun k hk => .inl (hSj k hk).1
          have hjd := JD.fin hjt hdn (fun k hk => by rcases hk with hk | hk; exact .inl (hSj k hk).1; exact .inr (by omega)) (fun k hk => hsd k hk.1) (fun k hk _ => hdis5 k hk)
          clear hjt hdn hfw htk
          go_wp2
          go_ret
          exact ⟨rfl, by rw [hal.out]; exact hjd, hfin⟩
end Go.Proofs.Ytnakolpaabpifaa
