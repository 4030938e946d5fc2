/- The walk of the law JournalOwn. -/
import Derived.Test.YtnakolpaabpifaaJ16
import Derived.Test.YtnakolpaabpifaaA5
set_option linter.unusedVariables false
set_option linter.unusedSimpArgs false
namespace Go.Proofs.Ytnakolpaabpifaa.journalOwn
open Go.RowKit Go.Proofs.YtnakolpaabpifaaW.PrintWords Go.Proofs.YtnakolpaabpifaaW.PrintLast

set_option maxRecDepth 100000 in
set_option maxHeartbeats 1000000 in
theorem walk (a0 : Option Addr) (len0 cap0 : Nat) (z0 : List Int) (a1 : Int) (a2 : Int) (w : World) (w0 : IsRow .u8 w a0 len0 cap0 z0) (w1 : (Lit.int .u8 a1).wf = true) (w2 : (Lit.int .u8 a2).wf = true) :
    Calls Try.prog 11 #[.slice a0 len0 cap0, .int .u8 a1, .int .u8 a2] w fun e w' => e = .returned (.bool true) ∧ Below w.heap.size w w' := by
  obtain ⟨hr, hc, hby, hbl⟩ := w0.reads
  have h1 := wf_u8 w1
  have h2 := wf_u8 w2
  generalize z0.take len0 = bs at *
  clear w0 w1 w2
  have Hl := hid hr.1
  have hmx := hr.2.1
  by_cases hz : len0 = 0
  · go_enter Try.func11, Try.ntmps11
    go_wp2_with fail
    refine (awake_journal _).mono ?_
    rintro e w' ⟨rfl, hb⟩
    go_wp2
    go_ret
    exact ⟨rfl, hb⟩
  · have hz' : ((len0 : Int) == 0) = false := by simp [hz]
    by_cases hg : 40 < (len0 : Int)
    · go_enter Try.func11, Try.ntmps11
      go_wp2_with fail
      refine (awake_journal _).mono ?_
      rintro e w' ⟨rfl, hb⟩
      go_wp2
      go_ret
      exact ⟨rfl, hb⟩
    · go_enter Try.func11, Try.ntmps11
      go_wp2_with fail
      refine (new_any _ 1000 (by decide) (by decide)).mono ?_
      rintro e w1 ⟨rfl, hd1, hb1⟩
      go_wp2_with fail
      refine (open_quiet w1 (fun k => k = w.heap.size) w.heap.size (DS.new 1000) 1000 [] [] [] hd1 (fun k hk => by subst hk; exact hd1.lt) (Quiet.new 1000) (hid rfl) (hid rfl) (by simp)).mono ?_
      rintro e w2 ⟨gj, D2, rfl, hj2, hf2, q2⟩
      have hb2 : Below w.heap.size w w2 := hb1.trans (hf2.below hb1.size (fun k hk => by omega))
      have hj3 : JD w2 (fun k => w.heap.size ≤ k ∧ k < w2.heap.size) gj w.heap.size [] false D2 := (hj2.mono (S1 := fun k => w.heap.size ≤ k) (fun k hk => by rcases hk with hk | hk; omega; have := hb1.size; omega)).bound
      have hr2 := hr.below hb2
      clear hd1 hf2 hj2 hb1 hr
      have hcv := reads_string (c := cap0) hr2 (by omega)
      have hlit : OwnB (w2.alloc (.cells #[] 5)) (fun k => w2.heap.size ≤ k) (.slice (some ⟨w2.heap.size, 0, none⟩) 0 0) [] :=
        ⟨own_lit w2 0 5 .u8 [] (Nat.zero_le _) (by simp), fun k hk => by simp [Value.ownBlock] at hk; omega⟩
      have hrr : ReadsInt (w2.alloc (.cells #[] 5)) .u8 a0 len0 bs := hr2.below ((Below.refl _ _).alloc (Nat.le_refl _) _)
      have hlen : ([] : List Int).length + len0 ≤ 140737488355328 := by simp; omega
      go_wp2_with (at_builtin; refine wp_append_bytes (.tmp 43) (.tmp 44) rfl rfl (fun k => w2.heap.size ≤ k) _ [] bs a0 len0 cap0 rfl rfl hlit hrr hlen ?_)
      intro A1 c1 w3 ho3 hf3
      have hb3 : Below w2.heap.size w2 w3 := ((Below.refl _ _).alloc (Nat.le_refl _) _).trans (hf3.below (by simp) fun k hk => by simp [Value.ownBlock] at hk; omega)
      obtain ⟨ga, ca, hA, _, _⟩ := ho3.1.form (by rw [Hl.out]; omega)
      obtain ⟨rfl, rfl⟩ : A1 = some ⟨ga, 0, none⟩ ∧ ca = c1 := by injection hA with e1 e2 e3; exact ⟨e1, e3.symm⟩
      clear hA
      have hga1 : w2.heap.size ≤ ga := by
        have h := ho3.2 ga rfl
        unfold Ext at h
        simp at h
        omega
      have hga2 : ga < w3.heap.size := own_lt ho3.1 ga rfl
      have ho4 : OwnB w3 (fun k => k = ga) (.slice (some ⟨ga, 0, none⟩) len0 ca) bs := by
        refine ⟨?_, fun k hk => by simp [Value.ownBlock] at hk; exact hk.symm⟩
        simpa using ho3.1
      have hs2 := hb2.size
      have hs3 := hb3.size
      have hbw : Below w.heap.size w w3 := hb2.trans (hb3.mono hs2)
      have hj4 := hj3.move hs3 fun k hk hl => hb3.block k hl
      clear ho3 hf3 hb3 hlit hrr hr2 hb2 hj3
      have hblt := hbw.alloc hbw.size (.cells #[.slice (some ⟨ga, 0, none⟩) len0 ca] 30)
      have hF : Kd.F KB (w3.alloc (.cells #[.slice (some ⟨ga, 0, none⟩) len0 ca] 30)) (fun k => w2.heap.size ≤ k ∧ k ≤ w3.heap.size) (some ⟨w3.heap.size, 0, none⟩) 1 [bs] :=
        F_lit (vs := [.slice (some ⟨ga, 0, none⟩) len0 ca]) (okp := fun k => k = ga) rfl (by simp) (fun j hj => by
          obtain rfl : j = 0 := by simpa using hj
          exact ho4.fk) (fun k hk => by omega) ⟨by omega, Nat.le_refl _⟩ (fun k hk => by omega)
      have hj5 := hj4.move (w1 := w3.alloc (.cells #[.slice (some ⟨ga, 0, none⟩) len0 ca] 30)) (by simp) fun k hk hl => Below.heap_alloc _ _ _ hl
      have ho5 := ho4.move (w1 := w3.alloc (.cells #[.slice (some ⟨ga, 0, none⟩) len0 ca] 30)) fun k hk hl => Below.heap_alloc _ _ _ hl
      have hvr : VR [bs] := ⟨by simp, by simp, fun r hr => by rw [List.mem_singleton] at hr; subst hr; rw [Hl.out]; omega, fun r hr => by rw [List.mem_singleton] at hr; subst hr; exact hby⟩
      have hfl : (frameP [bs]).length = 11 + len0 := by
        rw [frameP_length, bodyP_length]
        have : [bs].flatten = bs := by simp
        rw [this, Hl.out]
        simp; omega
      obtain ⟨D3, e3, q3⟩ := q2.jappend_ok (F := frameP [bs]) (by rw [hfl]; simp; omega)
      have E3 := hid e3
      have hs4 : (w3.alloc (.cells #[.slice (some ⟨ga, 0, none⟩) len0 ca] 30)).heap.size = w3.heap.size + 1 := by simp
      clear hj4 ho4 hbw e3 hfl q2
      have hbt : Below w.heap.size w (w3.alloc (.cells #[.slice (some ⟨ga, 0, none⟩) len0 ca] 30)) := hblt
      clear hblt
      go_wp2_with fail
      generalize w3.alloc (.cells #[.slice (some ⟨ga, 0, none⟩) len0 ca] 30) = w4 at *
      refine (append_jd w4 _ _ gj w.heap.size [] [bs] [bs] D2 D3 0 false _ 1 1 hj5 hF (fun k hk => ⟨fun h => by omega, by omega⟩) (Nat.le_refl _) hvr (hid E3.out.symm) (hid rfl) (by simp)).mono ?_
      rintro e w5 ⟨rfl, hj6, hf5⟩
      have hgaS : ¬ (fun k => w.heap.size ≤ k ∧ k < w2.heap.size) ga := fun h => by have := h.2; omega
      have ho6 := ho5.fr hf5 (fun k hk h => by have := h.2; omega)
      have hb5 := hbt.trans (hf5.below (by omega) (fun k hk => hk.1))
      have hi0 : 0 ≤ a1 % (len0 : Int) := Int.emod_nonneg _ (by omega)
      have hi1 : a1 % (len0 : Int) < (len0 : Int) := Int.emod_lt_of_pos _ (by omega)
      have hrow := ho6.1
      rw [Hl.out] at hrow
      obtain ⟨x1, x2⟩ := own_at hrow (a1 % (len0 : Int)) hi0 hi1
      have hb6 : Below w.heap.size w (w5.setCell ⟨ga, (a1 % (len0 : Int)).toNat, none⟩ (.int .u8 a2)) := hb5.setCell (by simp; omega) _
      have hj7 : JD (w5.setCell ⟨ga, (a1 % (len0 : Int)).toNat, none⟩ (.int .u8 a2)) (Ext (fun k => w.heap.size ≤ k ∧ k < w2.heap.size) w4) gj w.heap.size [bs] false D3 :=
        hj6.move (by simp [World.setCell]) fun k hk hl => Below.heap_setCell _ _ _ _ (fun e => by
          rw [show k = ga from e] at hk
          rcases hk with hk | hk
          · have := hk.2; omega
          · omega)
      obtain ⟨Sj, hj8⟩ := hj7.jour
      clear hrow ho6 hj6 hf5 hb5 hj5 hF ho5 hbt hj7 q3 hgaS
      go_wp2_with fail
      refine (record_any _ Sj gj _ [bs] false 0 bs len0 hj8 rfl Hl.out (by omega)).mono ?_
      rintro e w7 ⟨A7, c7, rfl, ho7, hb7⟩
      have hb8 := hb6.trans (hb7.mono hb6.size)
      clear hb7 hb6 hj8 x1 x2
      go_wp2_with fail
      refine (awake_journal _).mono ?_
      rintro e w9 ⟨rfl, hb9⟩
      have ho9 := ho7.move (w1 := w9) fun k _ hl => hb9.block k hl
      have hcv9 := own_string (P := Try.prog) Try.underlying30 Try.underlying5 Try.underlying9 ho9.1
      have hb10 := hb8.trans (hb9.mono hb8.size)
      clear ho7 ho9 hb8 hb9 hcv
      go_wp2
      go_ret
      exact ⟨rfl, hb10⟩
end Go.Proofs.Ytnakolpaabpifaa.journalOwn
