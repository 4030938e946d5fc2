/- The disk laws' sanity check. -/
import Derived.Test.YtnakolpaabpifaaA3
import Derived.Lib.SlBytesConst
set_option linter.unusedVariables false
set_option linter.unusedSimpArgs false
namespace Go.Proofs.Ytnakolpaabpifaa
open Go.RowKit Go.Proofs.YtnakolpaabpifaaW.PrintWords

theorem reads_lit (W : World) (xs : List Int) (fr : Nat × Nat) (hm : xs.length ≤ 9223372036854775807) : ReadsInt (W.alloc (.cells (nums .u8 xs).toArray 5 fr)) .u8 (some ⟨W.heap.size, 0, none⟩) xs.length xs := by
  refine ⟨rfl, hm, fun _ => ⟨_, rfl, fun j hj => ?_⟩⟩
  rw [add_plain, cell_of_row _ _ _ _ _ _ (blk_new W _)]
  simp [nums, List.getElem?_eq_getElem hj, List.getD_eq_getElem?_getD]

theorem reads_made (W : World) (m : Nat) (hm : m ≤ 9223372036854775807) : ReadsInt (W.alloc (.cells (madeCells #[.int .u8 0] m) 5)) .u8 (some ⟨W.heap.size, 0, none⟩) m (List.replicate m 0) := by
  obtain ⟨A, c, h1, h2⟩ := own_reads (own_made W 0 5 .u8 m (Nat.zero_le _) hm)
  injection h1 with e1 e2 e3
  rw [e1]; exact h2

/-- A disk of the call's own: since world w0 only blocks from B on have turned, and the disk lies there. -/
structure Own1 (B : Nat) (w0 w : World) (g : Nat) (D : DS) : Prop where
  at_ : DiskAt w (fun k => B ≤ k ∧ k < w.heap.size) g D
  below : Below B w0 w
  le : B ≤ w.heap.size

theorem DiskAt.alloc {w : World} {S : Nat → Prop} {g : Nat} {D : DS} (h : DiskAt w S g D) (o : Obj) : DiskAt (w.alloc o) S g D := h.move fun k _ hk => Below.heap_alloc _ _ _ hk
theorem Own1.new {w0 W w1 : World} {B : Nat} {D : DS} (hb : Below B w0 W) (hB : B ≤ W.heap.size) (hd : DiskAt w1 (fun k => k = W.heap.size) W.heap.size D) (h1 : Below W.heap.size W w1) : Own1 B w0 w1 W.heap.size D :=
  ⟨hd.bound.mono fun k hk => by obtain ⟨rfl, h⟩ := hk; exact ⟨hB, h⟩, hb.trans (h1.mono hB), by have := h1.size; omega⟩
/-- Behind an operation on the disk, met in world W. -/
theorem Own1.next {w0 W w1 : World} {B g : Nat} {S : Nat → Prop} {D : DS} (hb : Below B w0 W) (hB : B ≤ W.heap.size) (hS : ∀ k, S k → B ≤ k) (hd : DiskAt w1 (Ext S W) g D) (hf : Fr S W w1) : Own1 B w0 w1 g D :=
  ⟨hd.bound.mono fun k hk => by obtain ⟨h1, h2⟩ := hk; rcases h1 with h1 | h1; exact ⟨hS k h1, h2⟩; exact ⟨by omega, h2⟩, hb.trans (hf.below hB hS), by have := hf.size; omega⟩
theorem Own1.same {w0 W w1 : World} {B g : Nat} {S : Nat → Prop} {D : DS} (hb : Below B w0 W) (hB : B ≤ W.heap.size) (hS : ∀ k, S k → B ≤ k) (hd : DiskAt w1 S g D) (hf : Fr S W w1) : Own1 B w0 w1 g D :=
  Own1.next hb hB hS (hd.mono fun k hk => .inl hk) hf
/-- Something else was made meanwhile. -/
theorem Own1.keep {w0 W w1 : World} {B g : Nat} {D : DS} (h : Own1 B w0 W g D) (hb : Below W.heap.size W w1) : Own1 B w0 w1 g D :=
  ⟨(h.at_.move fun k _ hk => hb.block k hk).mono fun k hk => ⟨hk.1, by have := hb.size; have := hk.2; omega⟩, h.below.trans (hb.mono h.le), by have := hb.size; have := h.le; omega⟩
theorem Own1.alloc {w0 W : World} {B g : Nat} {D : DS} (h : Own1 B w0 W g D) (o : Obj) : Own1 B w0 (W.alloc o) g D := h.keep ((Below.refl _ _).alloc (Nat.le_refl _) o)
theorem Own1.crash {w0 W w1 : World} {B g g' : Nat} {D D1 : DS} (h : Own1 B w0 W g D) (hd : DiskAt w1 (fun k => W.heap.size ≤ k) g' D1) (hb : Below W.heap.size W w1) : Own1 B w0 w1 g' D1 :=
  ⟨hd.bound.mono fun k hk => by obtain ⟨h1, h2⟩ := hk; have := h.le; exact ⟨by omega, h2⟩, h.below.trans (hb.mono h.le), by have := hb.size; have := h.le; omega⟩

theorem aw1 : (DS.new 10).append [97, 98, 99] = (0, ⟨10, [97, 98, 99], 0, 1, false, 0, false⟩) := by simp [DS.append, DS.begin, DS.new, wrap64]
theorem aw2 : (⟨10, [97, 98, 99], 0, 1, false, 0, false⟩ : DS).sync = (0, ⟨10, [97, 98, 99], 3, 2, false, 0, false⟩) := by simp [DS.sync, DS.begin, DS.new, wrap64]
theorem aw3 : (⟨10, [97, 98, 99], 3, 2, false, 0, false⟩ : DS).append [100, 101] = (0, ⟨10, [97, 98, 99, 100, 101], 3, 3, false, 0, false⟩) := by simp [DS.append, DS.begin, DS.new, wrap64]
theorem aw4 : (⟨10, [97, 98, 99, 100, 101], 3, 3, false, 0, false⟩ : DS).crash 1 0 = ⟨10, [97, 98, 99, 100], 4, 0, false, 0, false⟩ := by simp [DS.crash, DS.survive, DS.keeps]

set_option maxRecDepth 100000 in
set_option maxHeartbeats 1000000 in
theorem awake_disk (w : World) : Calls Try.prog 19 #[] w fun e w' => e = .returned (.bool true) ∧ Below w.heap.size w w' := by
  have kc := fun (w : World) (C : Array Value) (n c : Nat) => Lib.run_convert_bytes_const (P := Try.prog) w 30 5 C n c Try.underlying30 Try.underlying5
  go_enter Try.func19, Try.ntmps19
  go_wp2_with fail
  refine (new_any _ 10 (by decide) (by decide)).mono ?_
  rintro e w1 ⟨rfl, hd1, hb1⟩
  have ho1 := Own1.new (Below.refl _ _) (Nat.le_refl _) hd1 hb1
  clear hd1 hb1
  go_wp2_with fail
  refine (append_is _ _ _ _ ⟨10, [97, 98, 99], 0, 1, false, 0, false⟩ 0 (ho1.at_.alloc _) _ 3 3 [97, 98, 99] (reads_lit w1 [97, 98, 99] (3, 4) (by decide)) (by decide) (fun ad h _ => by cases h; simp) (by decide) (hid aw1)).mono ?_
  rintro e w2 ⟨rfl, hd2, hf2⟩
  have ho2 := Own1.next (ho1.alloc _).below (ho1.alloc _).le (fun k hk => hk.1) hd2 hf2
  clear hd2 hf2 ho1
  go_wp2_with fail
  refine (sync_is _ _ _ _ ⟨10, [97, 98, 99], 3, 2, false, 0, false⟩ 0 ho2.at_ (hid aw2)).mono ?_
  rintro e w3 ⟨rfl, hd3, hf3⟩
  have ho3 := Own1.same ho2.below ho2.le (fun k hk => hk.1) hd3 hf3
  clear hd3 hf3 ho2
  go_wp2_with fail
  refine (append_is _ _ _ _ ⟨10, [97, 98, 99, 100, 101], 3, 3, false, 0, false⟩ 0 (ho3.at_.alloc _) _ 2 2 [100, 101] (reads_lit w3 [100, 101] (2, 3) (by decide)) (by decide) (fun ad h _ => by cases h; simp) (by decide) (hid aw3)).mono ?_
  rintro e w4 ⟨rfl, hd4, hf4⟩
  have ho4 := Own1.next (ho3.alloc _).below (ho3.alloc _).le (fun k hk => hk.1) hd4 hf4
  clear hd4 hf4 ho3
  go_wp2_with fail
  refine (crash_is _ _ _ _ ⟨10, [97, 98, 99, 100], 4, 0, false, 0, false⟩ 1 0 ho4.at_ (hid aw4)).mono ?_
  rintro e w5 ⟨g', rfl, hd5, hb5⟩
  have ho5 := ho4.crash hd5 hb5
  clear hd5 hb5 ho4
  go_wp2_with fail
  refine (read_is _ _ _ _ [97, 98, 99, 100] 4 ho5.at_ (hid ⟨rfl, rfl⟩)).mono ?_
  rintro e w6 ⟨A6, c6, rfl, hd6, hb6⟩
  have ho6 := ho5.keep hb6
  have hcv := own_string (P := Try.prog) Try.underlying30 Try.underlying5 Try.underlying9 hd6.1
  clear hd6 hb6 ho5
  have hst : (strOfNums [97, 98, 99, 100]).toList = [97, 98, 99, 100] := by decide +kernel
  go_wp2_with fail
  refine (size_is _ _ _ _ 4 ho6.at_ (hid rfl)).mono ?_
  rintro e w7 ⟨rfl, rfl⟩
  go_wp2
  go_ret
  exact ⟨rfl, ho6.below⟩
end Go.Proofs.Ytnakolpaabpifaa
