/- The walk of the law DiskOwn. -/
import Derived.Test.YtnakolpaabpifaaA5
set_option linter.unusedVariables false
set_option linter.unusedSimpArgs false
namespace Go.Proofs.Ytnakolpaabpifaa.diskOwn
open Go.RowKit
open Go.Proofs.YtnakolpaabpifaaW.PrintWords

theorem append_new (bs : List Int) (h : bs.length ≤ 100) : (DS.new 100).append bs = (0, ⟨100, bs, 0, 1, false, 0, false⟩) := by
  have h' : ¬ ((100 : Int) < bs.length) := by omega
  simp [DS.append, DS.begin, DS.new, wrap64, h']

set_option maxRecDepth 100000 in
set_option maxHeartbeats 1000000 in
theorem walk (a0 : Option Addr) (len0 cap0 : Nat) (z0 : List Int) (a1 : Int) (a2 : Int) (w : World) (w0 : IsRow .u8 w a0 len0 cap0 z0) (w1 : (Lit.int .u8 a1).wf = true) (w2 : (Lit.int .u8 a2).wf = true) :
    Calls Try.prog 4 #[.slice a0 len0 cap0, .int .u8 a1, .int .u8 a2] w fun e w' => e = .returned (.bool true) ∧ Below w.heap.size w w' := by
  obtain ⟨hr, hc, hby, hbl⟩ := w0.reads
  have h1 := wf_u8 w1
  have h2 := wf_u8 w2
  generalize z0.take len0 = bs at *
  clear w0 w1 w2
  have Hl := hid hr.1
  have hmx := hr.2.1
  by_cases hz : len0 = 0
  · go_enter Try.func4, Try.ntmps4
    go_wp2_with (go_at_call 19; refine (awake_disk _).mono ?_; rintro e w' ⟨rfl, hb⟩)
    go_ret
    exact ⟨rfl, hb⟩
  · have hz' : ((len0 : Int) == 0) = false := by simp [hz]
    by_cases hg : 40 < (len0 : Int)
    · go_enter Try.func4, Try.ntmps4
      go_wp2_with (go_at_call 19; refine (awake_disk _).mono ?_; rintro e w' ⟨rfl, hb⟩)
      go_ret
      exact ⟨rfl, hb⟩
    · go_enter Try.func4, Try.ntmps4
      go_wp2_with fail
      refine (new_any _ 100 (by decide) (by decide)).mono ?_
      rintro e w1 ⟨rfl, hd1, hb1⟩
      have ho1 := Own1.new (Below.refl _ _) (Nat.le_refl _) hd1 hb1
      have hr1 := hr.below hb1
      clear hd1 hb1
      have hcv := reads_string (c := cap0) hr1 (by omega)
      have hlit : OwnB (w1.alloc (.cells #[] 5)) (fun k => w1.heap.size ≤ k) (.slice (some ⟨w1.heap.size, 0, none⟩) 0 0) [] :=
        ⟨own_lit w1 0 5 .u8 [] (Nat.zero_le _) (by simp), fun k hk => by simp [Value.ownBlock] at hk; omega⟩
      have hrr : ReadsInt (w1.alloc (.cells #[] 5)) .u8 a0 len0 bs := hr1.below ((Below.refl _ _).alloc (Nat.le_refl _) _)
      have hlen : ([] : List Int).length + len0 ≤ 140737488355328 := by simp; omega
      go_wp2_with (at_builtin; refine wp_append_bytes (.tmp 34) (.tmp 35) rfl rfl (fun k => w1.heap.size ≤ k) _ [] bs a0 len0 cap0 rfl rfl hlit hrr hlen ?_)
      intro A1 c1 w2 ho2 hf2
      have hb2 : Below w1.heap.size w1 w2 := ((Below.refl _ _).alloc (Nat.le_refl _) _).trans (hf2.below (by simp) fun k hk => by simp [Value.ownBlock] at hk; omega)
      have hdk := ho1.at_.move (w1 := w2) (fun k _ hk => hb2.block k hk)
      have hbw := ho1.below.trans (hb2.mono ho1.le)
      have hle1 := ho1.le
      have hs2 := hb2.size
      obtain ⟨ga, ca, hA, _, _⟩ := ho2.1.form (by rw [Hl.out]; omega)
      obtain ⟨rfl, rfl⟩ : A1 = some ⟨ga, 0, none⟩ ∧ ca = c1 := by injection hA with e1 e2 e3; exact ⟨e1, e3.symm⟩
      clear hA
      have hga1 : w1.heap.size ≤ ga := by
        have h := ho2.2 ga rfl
        unfold Ext at h
        simp at h
        omega
      have hga2 : ga < w2.heap.size := own_lt ho2.1 ga rfl
      have hr2 : ReadsInt w2 .u8 (some ⟨ga, 0, none⟩) len0 bs := by
        obtain ⟨A, c, e, _, h⟩ := ho2.reads
        injection e with e1 e2 e3
        rw [← e1, ← e2] at h
        exact h
      have hc1 : len0 ≤ ca := own_le ho2.1
      clear hf2 hb2 ho1 hrr hlit hcv hr1
      go_wp2_with fail
      refine (append_is _ _ _ _ ⟨100, bs, 0, 1, false, 0, false⟩ 0 hdk _ len0 ca bs hr2 hc1 (fun ad h => by cases h; intro h; have := h.2; simp at this; omega) hby (hid (by rw [append_new _ (by rw [Hl.out]; omega)]))).mono ?_
      rintro e w3 ⟨rfl, hd3, hf3⟩
      have ho3 := ho2.1
      have hown3 : OwnB w3 (fun k => k = ga) (.slice (some ⟨ga, 0, none⟩) len0 ca) bs :=
        OwnB.fr (S := fun k => k = ga) ⟨ho2.1, fun k hk => by simp [Value.ownBlock] at hk; exact hk.symm⟩ hf3 (fun k hk h => by omega)
      have hd4 : DiskAt w3 (fun k => w.heap.size ≤ k ∧ k ≠ ga) w.heap.size ⟨100, bs, 0, 1, false, 0, false⟩ := hd3.mono fun k hk => by
        rcases hk with hk | hk <;> constructor <;> omega
      have hb3 := hbw.trans (hf3.below (by omega) (fun k hk => hk.1))
      have hs3 := hf3.size
      clear hd3 hf3 ho3 hdk hr2
      have hi0 : 0 ≤ a1 % (len0 : Int) := Int.emod_nonneg _ (by omega)
      have hi1 : a1 % (len0 : Int) < (len0 : Int) := Int.emod_lt_of_pos _ (by omega)
      have hrow := hown3.1
      rw [Hl.out] at hrow
      obtain ⟨x1, x2⟩ := own_at hrow (a1 % (len0 : Int)) hi0 hi1
      clear hrow
      go_wp2_with fail
      have hd5 : DiskAt (w3.setCell ⟨ga, (a1 % (len0 : Int)).toNat, none⟩ (.int .u8 a2)) (fun k => w.heap.size ≤ k ∧ k ≠ ga) w.heap.size ⟨100, bs, 0, 1, false, 0, false⟩ :=
        hd4.move fun k hk _ => Below.heap_setCell _ _ _ _ hk.2
      have hb5 := hb3.setCell (p := ⟨ga, (a1 % (len0 : Int)).toNat, none⟩) (by simp; omega) (.int .u8 a2)
      refine (awake_disk _).mono ?_
      rintro e w6 ⟨rfl, hb6⟩
      have hd6 := hd5.move (fun k _ hk => hb6.block k hk)
      have hb7 := hb5.trans (hb6.mono (by simp [World.setCell]; omega))
      have hs6 := hb6.size
      have hs6' : w3.heap.size ≤ w6.heap.size := by simpa [World.setCell] using hs6
      clear hd5 hb5 hb6 hd4 hs6 x1 x2
      go_wp2_with fail
      refine (read_is _ _ _ _ bs len0 hd6 (hid ⟨rfl, Hl.out⟩)).mono ?_
      rintro e w8 ⟨A8, c8, rfl, hd8, hb8⟩
      have hcv := own_string (P := Try.prog) Try.underlying30 Try.underlying5 Try.underlying9 hd8.1
      have hb9 := hb7.trans (hb8.mono (by omega))
      clear hd8 hb8
      go_wp2
      go_ret
      exact ⟨rfl, hb9⟩
end Go.Proofs.Ytnakolpaabpifaa.diskOwn
