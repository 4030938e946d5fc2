/- The walk of the law JournalErrors. -/
import Derived.Test.YtnakolpaabpifaaJ20
set_option linter.unusedVariables false
set_option linter.unusedSimpArgs false
namespace Go.Proofs.Ytnakolpaabpifaa.journalErrors
open Go.RowKit Go.Proofs.YtnakolpaabpifaaW.PrintWords Go.Proofs.YtnakolpaabpifaaW.PrintLast

/-- The rows that the law lays: N of them, all without a block but the k-th, which bears M bytes. -/
theorem laid (w : World) (N k M : Nat) (hN : N ≤ 1000) (hk : k < N) (hM : M ≤ 5000) :
    ∃ X, X = ((w.alloc (.cells ((madeCells #[.slice none 0 0] N).setIfInBounds k (.slice (some ⟨w.heap.size + 1, 0, none⟩) M M)) 30)).alloc (.cells (madeCells #[.int .u8 0] M) 5)).drew ∧ Below w.heap.size w X ∧ X.heap.size = w.heap.size + 2 ∧
      Kd.F KB X (fun j => w.heap.size ≤ j ∧ j < w.heap.size + 2) (some ⟨w.heap.size, 0, none⟩) N ((List.replicate N []).set k (List.replicate M 0)) := by
  have hs1 : ∀ cs : Array Value, (w.alloc (.cells cs 30)).heap.size = w.heap.size + 1 := fun cs => by simp
  have e : (madeCells #[.slice none 0 0] N).setIfInBounds k (.slice (some ⟨w.heap.size + 1, 0, none⟩) M M) = ((List.replicate N (Value.slice none 0 0)).set k (.slice (some ⟨w.heap.size + 1, 0, none⟩) M M)).toArray := by
    rw [← toList_madeCells_one, ← List.setIfInBounds_toArray, Array.toArray_toList]
  rw [e]
  have hbl := blk_new w (.cells ((List.replicate N (Value.slice none 0 0)).set k (.slice (some ⟨w.heap.size + 1, 0, none⟩) M M)).toArray 30)
  have hb1 : Below w.heap.size w (w.alloc (.cells ((List.replicate N (Value.slice none 0 0)).set k (.slice (some ⟨w.heap.size + 1, 0, none⟩) M M)).toArray 30)) := (Below.refl _ _).alloc (Nat.le_refl _) _
  have hl : ((List.replicate N (Value.slice none 0 0)).set k (.slice (some ⟨w.heap.size + 1, 0, none⟩) M M)).length = N := by simp
  have hat : ∀ j (hj : j < N), ((List.replicate N (Value.slice none 0 0)).set k (.slice (some ⟨w.heap.size + 1, 0, none⟩) M M))[j]'(by rw [hl]; exact hj) = if k = j then .slice (some ⟨w.heap.size + 1, 0, none⟩) M M else .slice none 0 0 := fun j hj => by
    rw [List.getElem_set, List.getElem_replicate]
  have hs2 := hs1 ((List.replicate N (Value.slice none 0 0)).set k (.slice (some ⟨w.heap.size + 1, 0, none⟩) M M)).toArray
  generalize (List.replicate N (Value.slice none 0 0)).set k (.slice (some ⟨w.heap.size + 1, 0, none⟩) M M) = vs at *
  generalize w.alloc (.cells vs.toArray 30) = w1 at *
  have hb2 : Below w1.heap.size w1 (w1.alloc (.cells (madeCells #[.int .u8 0] M) 5)) := (Below.refl _ _).alloc (Nat.le_refl _) _
  have ho : OwnB (w1.alloc (.cells (madeCells #[.int .u8 0] M) 5)) (fun k => k = w1.heap.size) (.slice (some ⟨w1.heap.size, 0, none⟩) M M) (List.replicate M 0) :=
    ⟨by have := own_made w1 0 5 .u8 M (Nat.zero_le _) (by omega); rwa [List.length_replicate], fun k hk => by simp [Value.ownBlock] at hk; omega⟩
  rw [hs2] at ho
  have hfk := ho.fk
  refine ⟨_, rfl, ?_, ?_, ?_⟩
  · exact below_drew (hb1.trans (hb2.mono (by omega)))
  · show (w1.alloc _).heap.size = _
    simp [hs2]
  · have hbx : (w1.alloc (.cells (madeCells #[.int .u8 0] M) 5)).heap[w.heap.size]? = some (.cells vs.toArray 30 (0, 0)) := (hb2.block _ (by omega)).trans hbl
    have := F_blk (w := (w1.alloc (.cells (madeCells #[.int .u8 0] M) 5)).drew) (g := w.heap.size) (vs := vs) (xs := (List.replicate N []).set k (List.replicate M 0)) (okp := fun k => k = w.heap.size + 1) (ok := fun j => w.heap.size ≤ j ∧ j < w.heap.size + 2) hbx (by simp [hl]) (by omega)
      (fun j hj => by
        have hj2 : j < N := by simpa using hj
        rw [List.getElem_set, hat j hj2]
        split
        · exact hfk
        · rw [List.getElem_replicate]
          exact FK_nil _ _)
      (fun k hk => by omega) (by omega)
    rw [hl] at this
    exact this
theorem laid_flat (N k M : Nat) (hk : k < N) : ((List.replicate N ([] : List Int)).set k (List.replicate M 0)).flatten.length = M := by
  induction N generalizing k with
  | zero => omega
  | succ N ih =>
    rw [List.replicate_succ]
    rcases k with _ | k
    · simp
    · rw [List.set_cons_succ, List.flatten_cons, List.length_append, ih k (by omega)]
      simp
theorem laid_mem (N k M : Nat) (hk : k < N) : ∀ r ∈ (List.replicate N ([] : List Int)).set k (List.replicate M 0), r = [] ∨ r = List.replicate M 0 := fun r hr => by
  rcases List.mem_or_eq_of_mem_set hr with h | h
  · exact .inl (List.eq_of_mem_replicate h)
  · exact .inr h
theorem laid_in (N k M : Nat) (hk : k < N) : List.replicate M 0 ∈ (List.replicate N ([] : List Int)).set k (List.replicate M 0) := List.mem_set (by rw [List.length_replicate]; exact hk) _

theorem cut_jappend (D : DS) (F : List Int) (h : D.off = false) : (42, true, ((D.cutAt 0).append F).2) = (D.cutAt 0).jappend F := by
  have e : (D.cutAt 0).append F = (42, (D.cutAt 0).begin.2) := by
    unfold DS.append DS.begin DS.cutAt
    simp [h]
  unfold DS.jappend
  rw [e]
  rfl
theorem wf_u16 {n : Int} (h : (Lit.int .u16 n).wf = true) : 0 ≤ n ∧ n < 65536 := by have := bounds_u16 h; omega

set_option maxRecDepth 100000 in
set_option maxHeartbeats 1600000 in
theorem walk (a0 a1 a2 : Int) (w : World) (w0 : (Lit.int .u16 a0).wf = true) (w1 : (Lit.int .u16 a1).wf = true) (w2 : (Lit.int .u8 a2).wf = true) :
    Calls Try.prog 8 #[.int .u16 a0, .int .u16 a1, .int .u8 a2] w fun e w' => e = .returned (.bool true) ∧ Below w.heap.size w w' := by
  have h0 := wf_u16 w0
  have h1 := wf_u16 w1
  have h2 := wf_u8 w2
  clear w0 w1 w2
  obtain ⟨N, hN⟩ := Int.eq_ofNat_of_zero_le (show 0 ≤ a0 % 20 from Int.emod_nonneg _ (by decide))
  have hN20 : N < 20 := by have := Int.emod_lt_of_pos a0 (show (0 : Int) < 20 by decide); omega
  have hmk := print_make_of (P := Try.prog) 55 30 (.slice none 0 0) 24 Try.underlying55 info30 rfl (by decide) N (by omega)
  go_enter Try.func8, Try.ntmps8
  go_wp2_with fail
  refine (new_any _ 262144 (by decide) (by decide)).mono ?_
  rintro e w1 ⟨rfl, hd1, hb1⟩
  go_wp2_with fail
  refine (open_quiet w1 (fun k => k = w.heap.size) w.heap.size (DS.new 262144) 262144 [] [] [] hd1 (fun k hk => by subst hk; exact hd1.lt) (Quiet.new 262144) (hid rfl) (hid rfl) (by simp)).mono ?_
  rintro e w2 ⟨gj, D2, rfl, hj2, hf2, q2⟩
  have hb2 : Below w.heap.size w w2 := hb1.trans (hf2.below hb1.size (fun k hk => by omega))
  have hj3 : JD w2 (fun k => w.heap.size ≤ k ∧ k < w2.heap.size) gj w.heap.size [] false D2 := (hj2.mono (S1 := fun k => w.heap.size ≤ k) (fun k hk => by rcases hk with hk | hk; omega; have := hb1.size; omega)).bound
  clear hd1 hf2 hj2 hb1
  have hsz := hb2.size
  rcases Nat.eq_zero_or_pos N with hz | hz
  · subst hz
    have hmk0 : ∀ W : World, (Instr.makeSlice 55 (.int .i64 0) (.int .i64 0)).run Try.prog W = .ok (.slice (some ⟨W.heap.size, 0, none⟩) 0 0) (W.alloc (.cells (madeCells #[.slice none 0 0] 0) 30)) := hmk
    clear hmk
    have hbr : Below w2.heap.size w2 (w2.alloc (.cells (madeCells #[.slice none 0 0] 0) 30)) := (Below.refl _ _).alloc (Nat.le_refl _) _
    have hj4 := hj3.move hbr.size fun k _ hl => hbr.block k hl
    have hb4 := hb2.trans (hbr.mono hsz)
    clear hj3 hb2 hbr
    go_wp2_with fail
    refine (append_empty _ _ _ _).mono ?_
    rintro e w4 ⟨rfl, rfl⟩
    obtain ⟨Sj, Sd, k1, k2, k3, k4, k5⟩ := hj4
    generalize w2.alloc (.cells (madeCells #[.slice none 0 0] 0) 30) = w3 at *
    go_wp2_with fail
    refine (cut_any _ Sd w.heap.size D2 0 k2).mono ?_
    rintro e w5 ⟨rfl, hd5, hf5⟩
    have hj5 := k1.fr hf5 k5
    have hb5 := hb4.trans (hf5.below hb4.size (fun k hk => (k4 k hk).1.1))
    clear k1 k2 hd5 hf5 hb4
    go_wp2_with fail
    refine (append_empty _ _ _ _).mono ?_
    rintro e w6 ⟨rfl, rfl⟩
    go_wp2_with fail
    refine (awake_journal _).mono ?_
    rintro e w7 ⟨rfl, hb7⟩
    have hj7 := hj5.move (w1 := w7) fun k _ hl => hb7.block k hl
    have hb8 := hb5.trans (hb7.mono hb5.size)
    clear hj5 hb5 hb7
    go_wp2_with fail
    refine (len_any _ _ _ _ _ _ 0 hj7 (hid rfl)).mono ?_
    rintro e w8 ⟨rfl, rfl⟩
    clear hj7
    go_wp2
    go_ret
    exact ⟨rfl, hb8⟩
  · obtain ⟨M, hM⟩ := Int.eq_ofNat_of_zero_le (show 0 ≤ 4080 + a1 % 30 by have := Int.emod_nonneg a1 (show (30 : Int) ≠ 0 by decide); omega)
    have hM1 : 4080 ≤ M ∧ M < 4110 := by have := Int.emod_nonneg a1 (show (30 : Int) ≠ 0 by decide); have := Int.emod_lt_of_pos a1 (show (0 : Int) < 30 by decide); omega
    have hmk2 := print_make (P := Try.prog) 30 5 .u8 1 Try.underlying30 info5 (by decide) M (by omega)
    have hbl := blk_new w2 (.cells (madeCells #[.slice none 0 0] N) 30)
    have hmk3 : ∀ W : World, (Instr.makeSlice 30 (.int .i64 (4080 + a1 % 30)) (.int .i64 (4080 + a1 % 30))).run Try.prog W = .ok (.slice (some ⟨W.heap.size, 0, none⟩) M M) (W.alloc (.cells (madeCells #[.int .u8 0] M) 5)) := by rw [hM]; exact hmk2
    have hi0 : 0 ≤ a2 % (N : Int) := Int.emod_nonneg _ (by omega)
    have hi1 : a2 % (N : Int) < (N : Int) := Int.emod_lt_of_pos _ (by omega)
    obtain ⟨k, hk⟩ := Int.eq_ofNat_of_zero_le hi0
    have hkN : k < N := by omega
    have hrem : (wrap64 a2).tmod (N : Int) = (k : Int) := by
      have e : wrap64 a2 = a2 := by unfold wrap64; omega
      rw [e, Int.tmod_eq_emod_of_nonneg h2.1, hk]
    have hNn : ¬ N = 0 := by omega
    have hcell : (madeCells #[.slice none 0 0] N)[k]? = some (Value.slice none 0 0) := by
      simp [madeCells, hkN, Nat.mod_one]
    have hwM : wrap64 (4080 + wrap64 (a1.tmod 30)) = (M : Int) := by
      have e1 : a1.tmod 30 = a1 % 30 := Int.tmod_eq_emod_of_nonneg h1.1
      have e2 : wrap64 (a1 % 30) = a1 % 30 := by unfold wrap64; omega
      rw [e1, e2]
      unfold wrap64
      omega
    clear hmk3 hi0 hi1 hk
    go_wp2
    refine start_ (n := 13) (S := fun w' => True) (ds := [12]) #[false, false, false, false, false, false, false, false, false, false, false, false, false] (by kernel_rfl) rfl rfl trivial (fun hHeld => ?_)
    refine pure_ (i := 0) (N := some 38) (v := ?_) (a' := ?_) #[true, false, false, false, false, false, false, false, false, false, false, false, false] rfl rfl (by kernel_rfl) (fun _ _ _ h => h) (Or.inl ⟨by rfl, ?_⟩) ?_ ?_
    rotate_left
    · intro w'
      go_simp
      with_reducible rfl
    rotate_left
    · simp only [Act.put, List.setIfInBounds_toArray, List.set_cons_zero, List.set_cons_succ, i64_w, i32_w]
      rfl
    refine pure_ (i := 1) (N := some 39) (v := ?_) (a' := ?_) #[true, true, false, false, false, false, false, false, false, false, false, false, false] rfl rfl (by kernel_rfl) (fun _ _ _ h => h) (Or.inl ⟨by rfl, ?_⟩) ?_ ?_
    rotate_left
    · intro w'
      go_simp
      with_reducible rfl
    rotate_left
    · simp only [Act.put, List.setIfInBounds_toArray, List.set_cons_zero, List.set_cons_succ, i64_w, i32_w]
      rfl
    refine pure_ (i := 2) (N := some 40) (v := ?_) (a' := ?_) #[true, true, true, false, false, false, false, false, false, false, false, false, false] rfl rfl (by kernel_rfl) (fun _ _ _ h => h) (Or.inl ⟨by rfl, ?_⟩) ?_ ?_
    rotate_left
    · intro w'
      go_simp
      with_reducible rfl
    rotate_left
    · simp only [Act.put, List.setIfInBounds_toArray, List.set_cons_zero, List.set_cons_succ, i64_w, i32_w]
      rfl
    refine pure_ (i := 3) (N := some 41) (v := ?_) (a' := ?_) #[true, true, true, true, false, false, false, false, false, false, false, false, false] rfl rfl (by kernel_rfl) (fun _ _ _ h => h) (Or.inl ⟨by rfl, ?_⟩) ?_ ?_
    rotate_left
    · intro w'
      go_simp
      with_reducible rfl
    rotate_left
    · simp only [Act.put, List.setIfInBounds_toArray, List.set_cons_zero, List.set_cons_succ, i64_w, i32_w]
      rfl
    refine pure_ (i := 4) (N := some 42) (v := ?_) (a' := ?_) #[true, true, true, true, true, false, false, false, false, false, false, false, false] rfl rfl (by kernel_rfl) (fun _ _ _ h => h) (Or.inl ⟨by rfl, ?_⟩) ?_ ?_
    rotate_left
    · intro w'
      go_simp
      with_reducible rfl
    rotate_left
    · simp only [Act.put, List.setIfInBounds_toArray, List.set_cons_zero, List.set_cons_succ, i64_w, i32_w]
      rfl
    refine pure_ (i := 5) (N := some 43) (v := ?_) (a' := ?_) #[true, true, true, true, true, true, false, false, false, false, false, false, false] rfl rfl (by kernel_rfl) (fun _ _ _ h => h) (Or.inl ⟨by rfl, ?_⟩) ?_ ?_
    rotate_left
    · intro w'
      go_simp
      with_reducible rfl
    rotate_left
    · simp only [Act.put, List.setIfInBounds_toArray, List.set_cons_zero, List.set_cons_succ, i64_w, i32_w]
      rfl
    refine pure_ (i := 6) (N := some 44) (v := ?_) (a' := ?_) #[true, true, true, true, true, true, true, false, false, false, false, false, false] rfl rfl (by kernel_rfl) (fun _ _ _ h => h) (Or.inl ⟨by rfl, ?_⟩) ?_ ?_
    rotate_left
    · intro w'
      go_simp
      with_reducible rfl
    rotate_left
    · simp only [Act.put, List.setIfInBounds_toArray, List.set_cons_zero, List.set_cons_succ, i64_w, i32_w]
      rfl
    refine pure_ (i := 7) (N := some 45) (v := ?_) (a' := ?_) #[true, true, true, true, true, true, true, true, false, false, false, false, false] rfl rfl (by kernel_rfl) (fun _ _ _ h => h) (Or.inl ⟨by rfl, ?_⟩) ?_ ?_
    rotate_left
    · intro w'
      go_simp
      with_reducible rfl
    rotate_left
    · simp only [Act.put, List.setIfInBounds_toArray, List.set_cons_zero, List.set_cons_succ, i64_w, i32_w]
      rfl
    refine pure_ (i := 8) (N := some 46) (v := ?_) (a' := ?_) #[true, true, true, true, true, true, true, true, true, false, false, false, false] rfl rfl (by kernel_rfl) (fun _ _ _ h => h) (Or.inl ⟨by rfl, ?_⟩) ?_ ?_
    rotate_left
    · intro w'
      go_simp
      with_reducible rfl
    rotate_left
    · simp only [Act.put, List.setIfInBounds_toArray, List.set_cons_zero, List.set_cons_succ, i64_w, i32_w]
      rfl
    refine pure_ (i := 9) (N := some 47) (v := ?_) (a' := ?_) #[true, true, true, true, true, true, true, true, true, true, false, false, false] rfl rfl (by kernel_rfl) (fun _ _ _ h => h) (Or.inl ⟨by rfl, ?_⟩) ?_ ?_
    rotate_left
    · intro w'
      go_simp
      with_reducible rfl
    rotate_left
    · simp only [Act.put, List.setIfInBounds_toArray, List.set_cons_zero, List.set_cons_succ, i64_w, i32_w]
      rfl
    refine one_ (i := 10) (N := some 48) #[true, true, true, true, true, true, true, true, true, true, true, false, false] rfl rfl (by kernel_rfl) (by decide) (fun K hK => ?_)
    refine value_ (w1 := ?_) (v := ?_) (by rfl) rfl ?_ ?_
    rotate_left 2
    · go_simp
      constructor
      · rfl
      · rfl
    refine hK.out _ _ trivial (fun hHeld => ?_)
    clear hK K
    refine norm_ (a' := ?_) ?_ ?_
    rotate_left
    · show Act.put _ (some 48) _ = _
      simp only [Act.put, List.setIfInBounds_toArray, List.set_cons_zero, List.set_cons_succ, i64_w, i32_w]
      rfl
    refine pure_ (i := 11) (N := some 49) (v := ?_) (a' := ?_) #[true, true, true, true, true, true, true, true, true, true, true, true, false] rfl rfl (by kernel_rfl) (fun _ _ _ h => h) (Or.inl ⟨by rfl, ?_⟩) ?_ ?_
    rotate_left
    · intro w'
      go_simp
      with_reducible rfl
    rotate_left
    · simp only [Act.put, List.setIfInBounds_toArray, List.set_cons_zero, List.set_cons_succ, i64_w, i32_w]
      rfl
    refine last_ (i := 12) (N := none) #[true, true, true, true, true, true, true, true, true, true, true, true, true] rfl rfl (by kernel_rfl) (by decide) (fun K hK => ?_)
    refine skip_ (w1 := ?_) (by rfl) rfl ?_ ?_
    rotate_left
    · go_simp
      rfl
    refine hK.out _ _ ?_
    clear hK K
    refine done_ (by kernel_rfl) ?_

    obtain ⟨X, hX, hbX, hsX, hFX⟩ := laid w2 N k M (by omega) hkN (by omega)
    rw [← hX]
    clear hX hrem hNn hcell hbl hmk2 hmk
    have hfl := laid_flat N k M hkN
    have hmem := laid_mem N k M hkN
    have hin := laid_in N k M hkN
    have hln : ((List.replicate N ([] : List Int)).set k (List.replicate M 0)).length = N := by simp
    have HB : ∀ r ∈ (List.replicate N ([] : List Int)).set k (List.replicate M 0), r.length ≤ M ∧ IsBytes r := fun r hr => by
      rcases hmem r hr with rfl | rfl
      · exact ⟨by simp, fun x hx => by simp at hx⟩
      · exact ⟨by simp, fun x hx => by rw [List.eq_of_mem_replicate hx]; decide⟩
    have hLong : 4096 < M → LongR ((List.replicate N ([] : List Int)).set k (List.replicate M 0)) := fun h => .inr ⟨_, hin, by simpa using h⟩
    generalize (List.replicate N ([] : List Int)).set k (List.replicate M 0) = rs at *
    have HM := hid hM
    have HLN := hid hln
    have HFL := hid hfl
    clear hmem hin hfl hln
    have hjX := hj3.move hbX.size fun k _ hl => hbX.block k hl
    have hBX : Below w.heap.size w X := hb2.trans (hbX.mono hsz)
    have hm9 : ∀ r ∈ rs, r.length ≤ 1000000000 := fun r hr => by have := (HB r hr).1; omega
    clear hj3 hb2
    by_cases hlong : 16 < N ∨ 4096 < M
    · have HL : LongR rs := by
        rcases hlong with h | h
        · exact .inl (by rw [HLN.out]; exact h)
        · exact hLong h
      have hcs : 16 < N ∨ (¬ 16 < N ∧ 4096 < M) := by omega
      clear hlong hLong
      rcases hcs with h | ⟨h, h'⟩
      all_goals
        go_wp2_with fail
        refine (append_long X _ _ N N rs (Kd.F_now hFX) (Nat.le_refl _) hz (by omega) hm9 HL).mono ?_
        rintro e w4 ⟨rfl, hb4⟩
        have hj4 := hjX.move hb4.size fun k _ hl => hb4.block k hl
        have hC4 := Kd.C_below (Kd.F_now hFX) hb4
        have hB4 : Below w.heap.size w w4 := hBX.trans (hb4.mono hBX.size)
        obtain ⟨Sj, Sd, k1, k2, k3, k4, k5⟩ := hj4
        go_wp2_with fail
        refine (cut_any _ Sd w.heap.size D2 0 k2).mono ?_
        rintro e w5 ⟨rfl, hd5, hf5⟩
        have hj5 := k1.fr hf5 k5
        have hb5 := hB4.trans (hf5.below hB4.size (fun k hk => (k4 k hk).1.1))
        have hC5 : Kd.C KB w5 (some ⟨w2.heap.size, 0, none⟩) N rs := Kd.F_now (Kd.F_step hFX (W1 := w5) fun k hk hl => (hf5.block k (by have := hb4.size; omega) (fun h => by have := (k4 k h).1.2; have := hk.1; omega)).trans (hb4.block k hl))
        clear k1 k2 hd5 hf5 hB4 hC4 hb4 hjX hFX hbX hBX
        go_wp2_with fail
        refine (append_long w5 _ _ N N rs hC5 (Nat.le_refl _) hz (by omega) hm9 HL).mono ?_
        rintro e w6 ⟨rfl, hb6⟩
        have hj6 := hj5.move (w1 := w6) fun k _ hl => hb6.block k hl
        have hb7 := hb5.trans (hb6.mono hb5.size)
        clear hj5 hb5 hb6 hC5
        go_wp2_with fail
        refine (awake_journal _).mono ?_
        rintro e w7 ⟨rfl, hb8⟩
        have hj7 := hj6.move (w1 := w7) fun k _ hl => hb8.block k hl
        have hb9 := hb7.trans (hb8.mono hb7.size)
        clear hj6 hb7 hb8
        go_wp2_with fail
        refine (len_any _ _ _ _ _ _ 0 hj7 (hid rfl)).mono ?_
        rintro e w8 ⟨rfl, rfl⟩
        clear hj7
        go_wp2
        go_ret
        exact ⟨rfl, hb9⟩
    · have hN16 : N ≤ 16 := by omega
      have hM6 : M ≤ 4096 := by omega
      have hvr : VR rs := ⟨by rw [HLN.out]; exact hz, by rw [HLN.out]; exact hN16, fun r hr => by have := (HB r hr).1; omega, fun r hr => (HB r hr).2⟩
      obtain ⟨D3, e3, q3⟩ := q2.jappend_ok (F := frameP rs) (by rw [frameP_length, bodyP_length, HLN.out, HFL.out]; simp; omega)
      have E3 := hid e3
      have Q3 := hid q3
      clear e3 q3 q2 hlong hLong
      go_wp2_with fail
      refine (append_jd X (fun k => w.heap.size ≤ k ∧ k < w2.heap.size) (fun j => w2.heap.size ≤ j ∧ j < w2.heap.size + 2) gj w.heap.size [] rs rs D2 D3 0 false _ N N hjX hFX (fun k hk => ⟨by omega, by omega⟩) (Nat.le_refl _) hvr (hid E3.out.symm) (hid rfl) (by simp)).mono ?_
      rintro e w4 ⟨rfl, hj4, hf4⟩
      have hB4 : Below w.heap.size w w4 := hBX.trans (hf4.below hBX.size (fun k hk => hk.1))
      have hF4 := Kd.F_step hFX (W1 := w4) fun k hk hl => hf4.block k hl (fun h => by have := h.2; have := hk.1; omega)
      have hs4 := hf4.size
      obtain ⟨Sj, Sd, k1, k2, k3, k4, k5⟩ := hj4
      have hk3 : ∀ k, Sj k → (w.heap.size ≤ k ∧ k < w4.heap.size ∧ ¬ (w2.heap.size ≤ k ∧ k < w2.heap.size + 2)) := fun k hk => by
        have h1 := k3 k hk
        rcases h1.1 with h | h
        · exact ⟨h.1, h1.2, by omega⟩
        · have := h1.2; exact ⟨by omega, by omega, by omega⟩
      have hk4 : ∀ k, Sd k → (w.heap.size ≤ k ∧ k < w4.heap.size ∧ ¬ (w2.heap.size ≤ k ∧ k < w2.heap.size + 2)) := fun k hk => by
        have h1 := k4 k hk
        rcases h1.1 with h | h
        · exact ⟨h.1, h1.2, by omega⟩
        · have := h1.2; exact ⟨by omega, by omega, by omega⟩
      clear hjX hf4 hFX hBX k3 k4
      go_wp2_with fail
      refine (cut_any _ Sd w.heap.size D3 0 k2).mono ?_
      rintro e w5 ⟨rfl, hd5, hf5⟩
      have hj5 : JD w5 (fun k => w.heap.size ≤ k ∧ k < w4.heap.size ∧ ¬ (w2.heap.size ≤ k ∧ k < w2.heap.size + 2)) gj w.heap.size rs false (D3.cutAt 0) :=
        ⟨Sj, Sd, k1.fr hf5 k5, hd5, fun k hk => ⟨hk3 k hk, by have := (hk3 k hk).2.1; have := hf5.size; omega⟩, fun k hk => ⟨hk4 k hk, by have := (hk4 k hk).2.1; have := hf5.size; omega⟩, k5⟩
      have hF5 := Kd.F_step hF4 (W1 := w5) fun k hk hl => hf5.block k hl (fun h => (hk4 k h).2.2 hk)
      have hB5 := hB4.trans (hf5.below hB4.size (fun k hk => (hk4 k hk).1))
      have hs5 := hf5.size
      have E5 : Hid ((42, true, ((D3.cutAt 0).append (frameP rs)).2) = (D3.cutAt 0).jappend (frameP rs)) := hid (cut_jappend D3 (frameP rs) Q3.out.hoff)
      clear k1 k2 hd5 hf5 hB4 hF4
      go_wp2_with fail
      refine (append_jd w5 _ (fun j => w2.heap.size ≤ j ∧ j < w2.heap.size + 2) gj w.heap.size rs rs rs (D3.cutAt 0) _ 42 true _ N N hj5 hF5 (fun k hk => ⟨fun h => h.2.2 hk, by omega⟩) (Nat.le_refl _) hvr E5 (hid rfl) (by rw [HLN.out]; omega)).mono ?_
      rintro e w6 ⟨rfl, hj6, hf6⟩
      have hb6 := hB5.trans (hf6.below hB5.size (fun k hk => hk.1))
      obtain ⟨Sj6, hj6⟩ := hj6.jour
      clear hj5 hF5 hB5 hf6
      go_wp2_with fail
      refine (awake_journal _).mono ?_
      rintro e w7 ⟨rfl, hb7⟩
      have hj7 := hj6.move (w1 := w7) fun k _ hl => hb7.block k hl
      have hb8 := hb6.trans (hb7.mono hb6.size)
      clear hj6 hb6 hb7
      go_wp2_with fail
      refine (len_any _ _ _ _ _ _ N hj7 (hid (by rw [HLN.out]))).mono ?_
      rintro e w8 ⟨rfl, rfl⟩
      clear hj7
      go_wp2
      go_ret
      exact ⟨rfl, hb8⟩
end Go.Proofs.Ytnakolpaabpifaa.journalErrors
