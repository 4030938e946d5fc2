/- A step on a disk and on its model. -/
import Derived.Test.YtnakolpaabpifaaB5
set_option linter.unusedVariables false
set_option linter.unusedSimpArgs false
namespace Go.Proofs.Ytnakolpaabpifaa
open Go.RowKit Go.Proofs.YtnakolpaabpifaaW.PrintWords

/-- A disk and its model, apart from one another, both within S. -/
def Both (w : World) (S : Nat → Prop) (g1 g2 : Nat) (D : DS) : Prop :=
  ∃ S1 S2, DiskAt w S1 g1 D ∧ RefAt w S2 g2 D ∧ (∀ k, S1 k → S k) ∧ (∀ k, S2 k → S k) ∧ ∀ k, S1 k → ¬ S2 k
theorem Both.mono {w : World} {S S' : Nat → Prop} {g1 g2 : Nat} {D : DS} (h : Both w S g1 g2 D) (hs : ∀ k, S k → S' k) : Both w S' g1 g2 D := by
  obtain ⟨S1, S2, a, b, c, d, e⟩ := h
  exact ⟨S1, S2, a, b, fun k hk => hs k (c k hk), fun k hk => hs k (d k hk), e⟩
theorem Both.move {w w1 : World} {S : Nat → Prop} {g1 g2 : Nat} {D : DS} (h : Both w S g1 g2 D) (hm : ∀ k, S k → k < w.heap.size → w1.heap[k]? = w.heap[k]?) : Both w1 S g1 g2 D := by
  obtain ⟨S1, S2, a, b, c, d, e⟩ := h
  exact ⟨S1, S2, a.move fun k hk => hm k (c k hk), b.move fun k hk => hm k (d k hk), c, d, e⟩
/-- The same, the sets within the memory. -/
theorem Both.open {w : World} {S : Nat → Prop} {g1 g2 : Nat} {D : DS} (h : Both w S g1 g2 D) :
    ∃ S1 S2, DiskAt w S1 g1 D ∧ RefAt w S2 g2 D ∧ (∀ k, S1 k → S k ∧ k < w.heap.size) ∧ (∀ k, S2 k → S k ∧ k < w.heap.size) ∧ ∀ k, S1 k → ¬ S2 k := by
  obtain ⟨S1, S2, a, b, c, d, e⟩ := h
  exact ⟨_, _, a.bound, b.bound, fun k hk => ⟨c k hk.1, hk.2⟩, fun k hk => ⟨d k hk.1, hk.2⟩, fun k hk h => e k hk.1 h.1⟩
theorem Both.bound {w : World} {S : Nat → Prop} {g1 g2 : Nat} {D : DS} (h : Both w S g1 g2 D) : Both w (fun k => S k ∧ k < w.heap.size) g1 g2 D := by
  obtain ⟨S1, S2, a, b, c, d, e⟩ := h.open
  exact ⟨S1, S2, a, b, c, d, e⟩
/-- An operation on the one, then on the other. -/
theorem Both.two {wr w2 w3 : World} {S S1 S2 : Nat → Prop} {g1 g2 : Nat} {D : DS} (hd : DiskAt w2 (Ext S1 wr) g1 D) (hf2 : Fr S1 wr w2) (hr : RefAt w3 (Ext S2 w2) g2 D) (hf3 : Fr S2 w2 w3)
    (h1 : ∀ k, S1 k → S k ∧ k < wr.heap.size) (h2 : ∀ k, S2 k → S k ∧ k < wr.heap.size) (h12 : ∀ k, S1 k → ¬ S2 k) : Both w3 (Ext S wr) g1 g2 D ∧ Fr S wr w3 := by
  have hs2 := hf2.size
  have hs3 := hf3.size
  refine ⟨⟨fun k => Ext S1 wr k ∧ k < w2.heap.size, Ext S2 w2, ?_, hr, ?_, ?_, ?_⟩, ?_⟩
  · refine hd.bound.move fun k hk hlt => hf3.block k hlt fun h => ?_
    rcases hk.1 with h' | h'
    · exact h12 k h' h
    · have := (h2 k h).2; omega
  · intro k hk
    rcases hk.1 with h | h
    · exact .inl (h1 k h).1
    · exact .inr h
  · intro k hk
    rcases hk with h | h
    · exact .inl (h2 k h).1
    · exact .inr (by omega)
  · rintro k ⟨hk, hlt⟩ h
    rcases h with h | h
    · rcases hk with h' | h'
      · exact h12 k h' h
      · have := (h2 k h).2; omega
    · omega
  · exact (hf2.mono fun k hk => (h1 k hk).1).trans (hf3.mono fun k hk => (h2 k hk).1) (fun k hk => .inl hk)

def StepPost (w : World) (S : Nat → Prop) (g1 g2 : Nat) (w' : World) : Prop := ∃ D', Both w' (Ext S w) g1 g2 D' ∧ Fr S w w'
theorem StepPost.mk {w wr w3 : World} {S : Nat → Prop} {g1 g2 : Nat} {D : DS} (hb : Below w.heap.size w wr) (h : Both w3 (Ext S wr) g1 g2 D ∧ Fr S wr w3) : StepPost w S g1 g2 w3 :=
  ⟨D, h.1.mono fun k hk => by rcases hk with hk | hk; exact .inl hk; exact .inr (by have := hb.size; omega), (Fr.of_below (S := S) hb).trans h.2 fun k hk => .inl hk⟩

theorem Both.sync {w w1 w2 w3 : World} {S S1 S2 : Nat → Prop} {g1 g2 : Nat} {D : DS} (hb : Below w.heap.size w w1) (hd : DiskAt w2 S1 g1 D) (hf2 : Fr S1 w1 w2) (hr : RefAt w3 S2 g2 D) (hf3 : Fr S2 w2 w3)
    (h1 : ∀ k, S1 k → S k ∧ k < w.heap.size) (h2 : ∀ k, S2 k → S k ∧ k < w.heap.size) (h12 : ∀ k, S1 k → ¬ S2 k) : StepPost w S g1 g2 w3 :=
  StepPost.mk hb (Both.two (hd.mono fun k hk => .inl hk) hf2 (hr.mono fun k hk => .inl hk) hf3 (fun k hk => ⟨(h1 k hk).1, by have := (h1 k hk).2; have := hb.size; omega⟩) (fun k hk => ⟨(h2 k hk).1, by have := (h2 k hk).2; have := hb.size; omega⟩) h12)

set_option maxRecDepth 100000 in
set_option maxHeartbeats 1000000 in
theorem step_rest (w : World) (S : Nat → Prop) (g1 g2 : Nat) (D : DS) (x0 x1 x2 : Int) (h : Both w S g1 g2 D) (hx0 : 0 ≤ x0 ∧ x0 < 256) (hx1 : 0 ≤ x1 ∧ x1 < 256) (hx2 : 0 ≤ x2 ∧ x2 < 256) (hx : 3 ≤ x0 % 8) :
    Calls Try.prog 22 #[.pointer (some ⟨g1, 0, none⟩), .pointer (some ⟨g2, 0, none⟩), .agg #[.int .u8 x0, .int .u8 x1, .int .u8 x2]] w fun e w' => e = .returned (.bool true) ∧ StepPost w S g1 g2 w' := by
  have hbx : Below w.heap.size w (w.alloc (.cells #[.int .u8 x0, .int .u8 x1, .int .u8 x2] 29)) := (Below.refl _ _).alloc (Nat.le_refl _) _
  have hm0 : 0 ≤ x0 % 8 := Int.emod_nonneg _ (by decide)
  have hm1 : x0 % 8 < 8 := Int.emod_lt_of_pos _ (by decide)
  obtain ⟨S1, S2, a, b, c, d, e⟩ := h.open
  have a1 := a.move (w1 := w.alloc (.cells #[.int .u8 x0, .int .u8 x1, .int .u8 x2] 29)) fun k _ hk => hbx.block k hk
  have b1 := b.move (w1 := w.alloc (.cells #[.int .u8 x0, .int .u8 x1, .int .u8 x2] 29)) fun k _ hk => hbx.block k hk
  clear a b h
  have hmv : ∀ {w1 w2 : World} (hf : Fr S1 w1 w2), RefAt w1 S2 g2 D → RefAt w2 S2 g2 D := fun hf hr => hr.move fun k hk hlt => hf.block k hlt fun h => e k h hk
  have Hmv : Hid (∀ (w1 w2 : World), Fr S1 w1 w2 → RefAt w1 S2 g2 D → RefAt w2 S2 g2 D) := hid fun _ _ => hmv
  have Hc := hid c
  have Hd := hid d
  have He := hid e
  clear c d e hmv
  have hy0 : 0 ≤ x1 % 40 := Int.emod_nonneg _ (by decide)
  have hy1 : x1 % 40 < 40 := Int.emod_lt_of_pos _ (by decide)
  generalize hq : x0 % 8 = q at *
  have hcases : q = 3 ∨ q = 4 ∨ q = 5 ∨ q = 6 ∨ q = 7 := by omega
  rcases hcases with rfl | rfl | rfl | rfl | rfl
  · go_enter Try.func22, Try.ntmps22
    go_wp2_with fail
    refine (sync_any _ _ _ _ a1).mono ?_
    rintro e w2 ⟨rfl, hd2, hf2⟩
    have b2 := Hmv.out _ _ hf2 b1
    go_wp2_with fail
    refine (ref_sync _ _ _ _ b2).mono ?_
    rintro e w3 ⟨rfl, hd3, hf3⟩
    have hp := Both.sync (S := S) hbx hd2 hf2 hd3 hf3 Hc.out Hd.out He.out
    clear hd2 hf2 hd3 hf3 b2
    go_wp2
    go_ret
    exact ⟨rfl, hp⟩
  · go_enter Try.func22, Try.ntmps22
    go_wp2_with fail
    refine (sync_any _ _ _ _ a1).mono ?_
    rintro e w2 ⟨rfl, hd2, hf2⟩
    have b2 := Hmv.out _ _ hf2 b1
    go_wp2_with fail
    refine (ref_sync _ _ _ _ b2).mono ?_
    rintro e w3 ⟨rfl, hd3, hf3⟩
    have hp := Both.sync (S := S) hbx hd2 hf2 hd3 hf3 Hc.out Hd.out He.out
    clear hd2 hf2 hd3 hf3 b2
    go_wp2
    go_ret
    exact ⟨rfl, hp⟩
  · go_enter Try.func22, Try.ntmps22
    go_wp2_with fail
    refine (truncate_any _ _ _ _ (x1 % 40 - 2) a1).mono ?_
    rintro e w2 ⟨rfl, hd2, hf2⟩
    have b2 := Hmv.out _ _ hf2 b1
    go_wp2_with fail
    refine (ref_truncate _ _ _ _ (x1 % 40 - 2) b2).mono ?_
    rintro e w3 ⟨rfl, hd3, hf3⟩
    have hp : StepPost w S g1 g2 w3 := StepPost.mk hbx (Both.two (S := S) (hd2.mono fun k hk => .inl hk) hf2 hd3 hf3 (fun k hk => ⟨(Hc.out k hk).1, by have := (Hc.out k hk).2; have := hbx.size; omega⟩) (fun k hk => ⟨(Hd.out k hk).1, by have := (Hd.out k hk).2; have := hbx.size; omega⟩) He.out)
    clear hd2 hf2 hd3 hf3 b2
    go_wp2
    go_ret
    exact ⟨rfl, hp⟩
  · go_enter Try.func22, Try.ntmps22
    go_wp2_with fail
    refine (cut_any _ _ _ _ (x1 - 3) a1).mono ?_
    rintro e w2 ⟨rfl, hd2, hf2⟩
    have b2 := Hmv.out _ _ hf2 b1
    go_wp2_with fail
    refine (ref_cut _ _ _ _ (x1 - 3) b2 (by omega)).mono ?_
    rintro e w3 ⟨rfl, hd3, hf3⟩
    have hp := Both.sync (S := S) hbx hd2 hf2 hd3 hf3 Hc.out Hd.out He.out
    clear hd2 hf2 hd3 hf3 b2
    go_wp2
    go_ret
    exact ⟨rfl, hp⟩
  · have hp : StepPost w S g1 g2 (w.alloc (.cells #[.int .u8 x0, .int .u8 x1, .int .u8 x2] 29)) := Both.sync (S := S) hbx a1 (Fr.refl _ _) b1 (Fr.refl _ _) Hc.out Hd.out He.out
    go_enter Try.func22, Try.ntmps22
    go_wp2
    go_ret
    exact ⟨rfl, hp⟩

/-- The bytes that a step makes, at block g; what was there in w is as it was. -/
def Bytes7 (w : World) (g m : Nat) (wr : World) : Prop :=
  ∃ bs : List Int, wr.ownsRow 0 5 1 (.slice (some ⟨g, 0, none⟩) m m) m (nums .u8 bs) ∧ bs.length = m ∧ (∀ x ∈ bs, 0 ≤ x ∧ x < 256) ∧ Below w.heap.size w wr
theorem Bytes7.at_ {w wr : World} {g m : Nat} (h : Bytes7 w g m wr) (k : Nat) (hk : k < m) : (∃ v, wr.cell? ⟨g, k, none⟩ = some (.int .u8 v)) ∧ wr.frozen? ⟨g, k, none⟩ = false := by
  obtain ⟨bs, h1, h2, h3, h4⟩ := h
  have := own_at h1 (k : Int) (by omega) (by omega)
  simp only [Int.toNat_natCast] at this
  exact ⟨⟨_, this.1⟩, this.2⟩
theorem Bytes7.set {w wr : World} {g m : Nat} (h : Bytes7 w g m wr) (k : Nat) (x : Int) (hg : w.heap.size ≤ g) (hx : 0 ≤ x ∧ x < 256) : Bytes7 w g m (wr.setCell ⟨g, k, none⟩ (.int .u8 x)) := by
  obtain ⟨bs, h1, h2, h3, h4⟩ := h
  have := (own_store h1 (k : Int) x).1
  simp only [Int.toNat_natCast] at this
  refine ⟨bs.set k x, this, by rw [List.length_set, h2], fun y hy => ?_, h4.setCell hg _⟩
  rcases List.mem_or_eq_of_mem_set hy with h | h
  · exact h3 y h
  · rw [h]; exact hx

set_option maxRecDepth 100000 in
set_option maxHeartbeats 1000000 in
theorem step_append (w : World) (S : Nat → Prop) (g1 g2 : Nat) (D : DS) (x0 x1 x2 : Int) (h : Both w S g1 g2 D) (hx0 : 0 ≤ x0 ∧ x0 < 256) (hx1 : 0 ≤ x1 ∧ x1 < 256) (hx2 : 0 ≤ x2 ∧ x2 < 256) (hx : x0 % 8 < 3) :
    Calls Try.prog 22 #[.pointer (some ⟨g1, 0, none⟩), .pointer (some ⟨g2, 0, none⟩), .agg #[.int .u8 x0, .int .u8 x1, .int .u8 x2]] w fun e w' => e = .returned (.bool true) ∧ StepPost w S g1 g2 w' := by
  have hbx : Below w.heap.size w (w.alloc (.cells #[.int .u8 x0, .int .u8 x1, .int .u8 x2] 29)) := (Below.refl _ _).alloc (Nat.le_refl _) _
  have hm0 : 0 ≤ x0 % 8 := Int.emod_nonneg _ (by decide)
  obtain ⟨S1, S2, a, b, c, d, e⟩ := h.open
  have Ha := hid a
  have Hb := hid b
  have Hc := hid c
  have Hd := hid d
  have He := hid e
  clear a b c d e h
  obtain ⟨m, hm⟩ := Int.eq_ofNat_of_zero_le (show 0 ≤ x1 % 7 from Int.emod_nonneg _ (by decide))
  have hm7 : m < 7 := by have := Int.emod_lt_of_pos x1 (show (0 : Int) < 7 by decide); omega
  have hmk := print_make (P := Try.prog) 30 5 .u8 1 Try.underlying30 info5 (by decide) m (by omega)
  generalize hq : x0 % 8 = q at *
  have hcases : q = 0 ∨ q = 1 ∨ q = 2 := by omega
  rcases hcases with rfl | rfl | rfl
  all_goals
    go_enter Try.func22, Try.ntmps22
    go_wp2_with fail
    have hrow0 : Bytes7 w (w.heap.size + 1) m ((w.alloc (.cells #[.int .u8 x0, .int .u8 x1, .int .u8 x2] 29)).alloc (.cells (madeCells #[.int .u8 0] m) 5)) := by
      refine ⟨List.replicate m 0, ?_, by simp, fun x hx => by rw [(List.mem_replicate.1 hx).2]; decide, ?_⟩
      · have h := own_made (w.alloc (.cells #[.int .u8 x0, .int .u8 x1, .int .u8 x2] 29)) 0 5 .u8 m (Nat.zero_le _) (by omega)
        simpa using h
      · exact hbx.alloc hbx.size _
    have hcx0 : ((w.alloc (.cells #[.int .u8 x0, .int .u8 x1, .int .u8 x2] 29)).alloc (.cells (madeCells #[.int .u8 0] m) 5)).cell? ⟨w.heap.size, 2, none⟩ = some (.int .u8 x2) := by
      rw [World.cell?_of_block (w := w.alloc (.cells #[.int .u8 x0, .int .u8 x1, .int .u8 x2] 29)) (Below.heap_alloc _ _ _ (by simp)), cell_of_row _ _ _ _ _ _ (blk_new w _)]
      rfl
    generalize (w.alloc (.cells #[.int .u8 x0, .int .u8 x1, .int .u8 x2] 29)).alloc (.cells (madeCells #[.int .u8 0] m) 5) = wB at *
    go_loopw [25] (fun i wr => ∃ k : Nat, i = .int .i64 k ∧ k ≤ m ∧ Bytes7 w (w.heap.size + 1) m wr ∧ wr.cell? ⟨w.heap.size, 2, none⟩ = some (.int .u8 x2)) (fun i _ => m - (intOf i).toNat)
    case atStart => exact ⟨0, rfl, Nat.zero_le _, hrow0, hcx0⟩
    case round =>
      clear hrow0 hcx0
      obtain ⟨k, rfl, hk, hrow, hcx⟩ := hrel
      by_cases hlt : k < m
      · obtain ⟨⟨v0, y1⟩, y2⟩ := hrow.at_ k hlt
        have hrow2 := hrow.set k ((x2 + k) % 256) (by omega) ⟨Int.emod_nonneg _ (by decide), Int.emod_lt_of_pos _ (by decide)⟩
        have Hrow2 := hid hrow2
        clear hrow hrow2
        go_wp2
        go_roundw
        case rel =>
          refine ⟨k + 1, by go_num, by omega, Hrow2.out, ?_⟩
          rw [World.cell?_of_block (w := wr) (Below.heap_setCell _ _ _ _ (by simp))]
          exact hcx
        case measure => simp [intOf]; omega
      · obtain rfl : k = m := by omega
        obtain ⟨bs, z1, z2, z3, z4⟩ := hrow
        have hrr : ReadsInt wr .u8 (some ⟨w.heap.size + 1, 0, none⟩) k bs := by
          obtain ⟨A, c, h1, h2⟩ := own_reads z1
          injection h1 with e1 e2 e3
          rw [e1]; exact h2
        have hsz : w.heap.size + 1 < wr.heap.size := own_lt z1 (w.heap.size + 1) rfl
        have a1 := Ha.out.move (w1 := wr) fun j _ hj => z4.block j hj
        have b1 := Hb.out.move (w1 := wr) fun j _ hj => z4.block j hj
        have Hz4 := hid z4
        clear z1 z4
        go_wp2_with fail
        refine (append_any _ _ _ D a1 _ k k bs hrr (Nat.le_refl _) (fun ad h _ hs => by cases h; have := (Hc.out _ hs).2; simp at this; omega) z3).mono ?_
        rintro e w2 ⟨rfl, hd2, hf2⟩
        have b2 := b1.move (w1 := w2) fun j hj hlt => hf2.block j hlt fun h => He.out j h hj
        have hrr2 : ReadsInt w2 .u8 (some ⟨w.heap.size + 1, 0, none⟩) k bs := by
          refine ⟨hrr.1, hrr.2.1, fun h => ?_⟩
          obtain ⟨ad, h1, h2⟩ := hrr.2.2 h
          cases h1
          refine ⟨_, rfl, fun j hj => hf2.cell (h2 j hj) fun hs => ?_⟩
          have := (Hc.out _ hs).2
          simp [Addr.add] at this
          split at this <;> simp at this <;> omega
        clear hrr b1 a1
        go_wp2_with fail
        refine (ref_append _ _ _ D b2 _ k k bs hrr2 (Nat.le_refl _) (fun ad h _ hs => by cases h; have := (Hd.out _ hs).2; simp at this; omega) z3 (by omega)).mono ?_
        rintro e w3 ⟨rfl, hd3, hf3⟩
        have hp : StepPost w S g1 g2 w3 := StepPost.mk Hz4.out (Both.two (S := S) hd2 hf2 hd3 hf3 (fun j hj => ⟨(Hc.out j hj).1, by have := (Hc.out j hj).2; omega⟩) (fun j hj => ⟨(Hd.out j hj).1, by have := (Hd.out j hj).2; omega⟩) He.out)
        clear hd2 hf2 hd3 hf3 b2 hrr2 z3
        go_wp2
        go_ret
        exact ⟨rfl, hp⟩

theorem step_any (w : World) (S : Nat → Prop) (g1 g2 : Nat) (D : DS) (x0 x1 x2 : Int) (h : Both w S g1 g2 D) (hx0 : 0 ≤ x0 ∧ x0 < 256) (hx1 : 0 ≤ x1 ∧ x1 < 256) (hx2 : 0 ≤ x2 ∧ x2 < 256) :
    Calls Try.prog 22 #[.pointer (some ⟨g1, 0, none⟩), .pointer (some ⟨g2, 0, none⟩), .agg #[.int .u8 x0, .int .u8 x1, .int .u8 x2]] w fun e w' => e = .returned (.bool true) ∧ StepPost w S g1 g2 w' := by
  by_cases hx : 3 ≤ x0 % 8
  · exact step_rest w S g1 g2 D x0 x1 x2 h hx0 hx1 hx2 hx
  · exact step_append w S g1 g2 D x0 x1 x2 h hx0 hx1 hx2 (by omega)
end Go.Proofs.Ytnakolpaabpifaa
