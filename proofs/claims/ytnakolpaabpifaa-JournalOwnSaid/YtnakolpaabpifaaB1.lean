/- The reference's disk, said with the same state as the program's. -/
import Derived.Test.YtnakolpaabpifaaA5
import Derived.Deep.RegionHeld3
set_option linter.unusedVariables false
set_option linter.unusedSimpArgs false
namespace Go.Proofs.Ytnakolpaabpifaa
open Go.RowKit Go.Proofs.YtnakolpaabpifaaW.PrintWords

/-- How the reference holds the power. -/
def RefCut (D : DS) (c : Bool) (l : Int) : Prop :=
  (D.off = true ∧ c = true ∧ l = 0) ∨ (D.off = false ∧ D.cut = false ∧ c = false) ∨ (D.off = false ∧ D.cut = true ∧ c = true ∧ l = D.left ∧ 1 ≤ l ∧ l ≤ 9223372036854775807)

/-- The reference's disk at block g. -/
def RefAt (w : World) (S : Nat → Prop) (g : Nat) (D : DS) : Prop :=
  ∃ v c l, w.heap[g]? = some (.cells #[.int .i64 D.room, .int .i64 D.dur, .int .i64 D.ops, v, .bool c, .int .i64 l] 75 (0, 0)) ∧ OwnB w S v D.b ∧ S g ∧ D.ok ∧ RefCut D c l
theorem RefAt.mono {w : World} {S S1 : Nat → Prop} {g : Nat} {D : DS} (h : RefAt w S g D) (hs : ∀ k, S k → S1 k) : RefAt w S1 g D := by
  obtain ⟨v, c, l, h1, h2, h3, h4⟩ := h
  exact ⟨v, c, l, h1, h2.mono hs, hs _ h3, h4⟩
theorem RefAt.bound {w : World} {S : Nat → Prop} {g : Nat} {D : DS} (h : RefAt w S g D) : RefAt w (fun k => S k ∧ k < w.heap.size) g D := by
  obtain ⟨v, c, l, h1, h2, h3, h4⟩ := h
  exact ⟨v, c, l, h1, h2.bound, ⟨h3, blk_lt h1⟩, h4⟩
theorem RefAt.move {w w1 : World} {S : Nat → Prop} {g : Nat} {D : DS} (h : RefAt w S g D) (hm : ∀ k, S k → k < w.heap.size → w1.heap[k]? = w.heap[k]?) : RefAt w1 S g D := by
  obtain ⟨v, c, l, h1, h2, h3, h4⟩ := h
  exact ⟨v, c, l, (hm g h3 (blk_lt h1)).trans h1, h2.move hm, h3, h4⟩
theorem RefAt.mk {w : World} {S : Nat → Prop} {g : Nat} (D : DS) (v : Value) (c : Bool) (l : Int) {cs : Array Value} (h : w.heap[g]? = some (.cells cs 75 (0, 0))) (hc : cs = #[.int .i64 D.room, .int .i64 D.dur, .int .i64 D.ops, v, .bool c, .int .i64 l]) (ho : OwnB w S v D.b) (hs : S g) (hk : D.ok) (hr : RefCut D c l) : RefAt w S g D :=
  ⟨v, c, l, by rw [h, hc], ho, hs, hk, hr⟩

set_option maxHeartbeats 400000 in
theorem ref_begin (w : World) (S : Nat → Prop) (g : Nat) (D : DS) (hd : RefAt w S g D) :
    Calls Try.prog 47 #[.pointer (some ⟨g, 0, none⟩)] w fun e w' => e = .returned (.bool (!D.begin.1)) ∧ RefAt w' S g D.begin.2 ∧ Fr S w w' := by
  obtain ⟨v, c, l, hb, ho, hs, hk, hr⟩ := hd
  have q2 := blk_cell hb 2
  have q4 := blk_cell hb 4
  have q5 := blk_cell hb 5
  have fz := blk_frozen hb
  have hkb := hk.begin
  rcases hr with ⟨h1, rfl, rfl⟩ | ⟨h1, h2, rfl⟩ | ⟨h1, h2, rfl, h3, h4, h5⟩
  · have H1 := hid h1
    clear h1
    go_enter Try.func47, Try.ntmps47
    go_wp2
    go_ret
    have h1 := H1.out
    exact ⟨by simp [DS.begin, h1], .mk _ v true 0 (blk_set hb 2 _) (by simp [DS.begin, h1]) (by simpa [DS.begin, h1] using ho.set hb (by decide) _ _) hs hkb (.inl ⟨by simp [DS.begin, h1], rfl, rfl⟩), (Fr.refl _ _).set hs _⟩
  · have H1 := hid h1
    have H2 := hid h2
    clear h1 h2
    go_enter Try.func47, Try.ntmps47
    go_wp2
    go_ret
    have h1 := H1.out
    have h2 := H2.out
    exact ⟨by simp [DS.begin, h1, h2], .mk _ v false l (blk_set hb 2 _) (by simp [DS.begin, h1, h2]) (by simpa [DS.begin, h1, h2] using ho.set hb (by decide) _ _) hs hkb (.inr (.inl ⟨by simp [DS.begin, h1, h2], by simp [DS.begin, h1, h2], rfl⟩)), (Fr.refl _ _).set hs _⟩
  · have H1 := hid h1
    have H2 := hid h2
    have H3 := hid h3
    have hl0 : (l == 0) = false := by simp; omega
    have hw : wrap64 (D.left - 1) = l - 1 := by unfold wrap64; omega
    have Hw := hid hw
    clear h1 h2 h3 hw
    go_enter Try.func47, Try.ntmps47
    go_wp2
    go_ret
    have h1 := H1.out
    have h2 := H2.out
    have h3 := H3.out
    have hw := Hw.out
    refine ⟨by simp [DS.begin, h1, h2], .mk _ v true (l - 1) (blk_set (blk_set hb 2 _) 5 _) (by simp [DS.begin, h1, h2]) (by simpa [DS.begin, h1, h2] using (ho.set hb (by decide) _ _).set (blk_set hb 2 _) (by decide) _ _) hs hkb ?_, ((Fr.refl _ _).set hs _).set hs _⟩
    have hbg : D.begin.2 = { D with ops := wrap64 (D.ops + 1), left := wrap64 (D.left - 1), off := decide (wrap64 (D.left - 1) < 1) } := by simp [DS.begin, h1, h2]
    rw [hbg]
    by_cases hlt : l - 1 < 1
    · exact .inl ⟨by simp only [hw]; simp; omega, rfl, by omega⟩
    · exact .inr (.inr ⟨by simp only [hw]; simp; omega, h2, rfl, hw.symm, by omega, by omega⟩)
theorem ref_begin_is (w : World) (S : Nat → Prop) (g : Nat) (D D1 : DS) (t : Bool) (hd : RefAt w S g D) (h : Hid (D.begin = (t, D1))) :
    Calls Try.prog 47 #[.pointer (some ⟨g, 0, none⟩)] w fun e w' => e = .returned (.bool (!t)) ∧ RefAt w' S g D1 ∧ Fr S w w' := by
  have := ref_begin w S g D hd
  rw [h.out] at this
  exact this
end Go.Proofs.Ytnakolpaabpifaa
