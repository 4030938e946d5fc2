/- The chapter's example. -/
import Derived.Test.YtnakolpaabpifaaJ15
import Derived.Lib.SlBytesConst
set_option linter.unusedVariables false
set_option linter.unusedSimpArgs false
namespace Go.Proofs.Ytnakolpaabpifaa
open Go.RowKit Go.Proofs.YtnakolpaabpifaaW.PrintWords Go.Proofs.YtnakolpaabpifaaW.PrintLast

theorem JD.bound {w : World} {S : Nat → Prop} {gj gd : Nat} {all : List (List Int)} {dead : Bool} {D : DS} (h : JD w S gj gd all dead D) : JD w (fun k => S k ∧ k < w.heap.size) gj gd all dead D := by
  obtain ⟨Sj, Sd, h1, h2, h3, h4, h5⟩ := h
  exact ⟨Sj, Sd, h1, h2, fun k hk => ⟨h3 k hk, (h3 k hk).2⟩, fun k hk => ⟨h4 k hk, (h4 k hk).2⟩, h5⟩
/-- Records that were just laid, with what they lead to. -/
theorem F_lit {w : World} {vs : List Value} {xs : List (List Int)} {okp ok : Nat → Prop} (hl : vs.length = xs.length) (hm : vs.length ≤ 1000000000) (h : ∀ j (hj : j < xs.length), Kd.FK KB w okp xs[j] [vs[j]'(by omega)]) (hok : ∀ k, okp k → ok k) (hn : ok w.heap.size) (hlt : ∀ k, okp k → k < w.heap.size) :
    Kd.F KB (w.alloc (.cells vs.toArray 30)) ok (some ⟨w.heap.size, 0, none⟩) vs.length xs := fun W' hW => by
  have hbl := (hW w.heap.size hn (by simp)).trans (blk_new w (.cells vs.toArray 30))
  refine ⟨hl.symm, by omega, fun hp => ⟨_, rfl, fun j p hj => ?_⟩⟩
  obtain ⟨hjl, rfl⟩ := List.getElem?_eq_some_iff.1 hj
  refine ⟨[vs[j]'(by omega)], rfl, h j hjl W' (fun k hk hkl => (hW k (hok k hk) (by simp; omega)).trans (Below.heap_alloc _ _ _ hkl)), fun i u hu => ?_⟩
  have hi : i = 0 := by
    rcases i with _ | i
    · rfl
    · simp at hu
  subst hi
  rw [add_plain, blk_cell hbl]
  have e : j * KB.sz + 0 = j := by show j * 1 + 0 = j; omega
  rw [e, ← hu]
  simp [List.getElem?_eq_getElem (show j < vs.length by omega)]
theorem FK_own {w : World} {S : Nat → Prop} {v : Value} {bs : List Int} (h : OwnB w S v bs) : Kd.FK KB w (fun k => S k ∧ k < w.heap.size) bs [v] := h.bound.fk

theorem FK_blk {w : World} {g : Nat} {x : Int} {fr : Nat × Nat} (h : w.heap[g]? = some (.cells #[.int .u8 x] 5 fr)) : Kd.FK KB w (fun k => k = g) [x] [.slice (some ⟨g, 0, none⟩) 1 1] := fun W' hW => by
  have h1 := (hW g rfl (blk_lt h)).trans h
  refine ⟨some ⟨g, 0, none⟩, 1, rfl, Nat.le_refl _, C_of_readsInt ⟨rfl, by simp, fun _ => ⟨_, rfl, fun j hj => ?_⟩⟩⟩
  obtain rfl : j = 0 := by simpa using hj
  rw [add_plain, cell_of_row W' g 0 _ _ _ h1]
  rfl
/-- The records of the example. -/
def awakeW (w : World) : World := ((w.alloc (.cells #[.int .u8 97] 5 (1, 2))).alloc (.cells #[.int .u8 98] 5 (1, 2))).alloc (.cells #[.slice (some ⟨w.heap.size, 0, none⟩) 1 1, .slice (some ⟨w.heap.size + 1, 0, none⟩) 1 1] 30)
theorem awakeW_below (w : World) : Below w.heap.size w (awakeW w) := (((Below.refl _ _).alloc (Nat.le_refl _) _).alloc (by simp) _).alloc (by simp; omega) _
theorem awakeW_size (w : World) : (awakeW w).heap.size = w.heap.size + 3 := by simp [awakeW]
theorem awake_rows (w : World) : Kd.F KB (awakeW w) (fun k => w.heap.size ≤ k ∧ k < (awakeW w).heap.size) (some ⟨w.heap.size + 2, 0, none⟩) 2 [[97], [98]] := by
  have hs1 : ((w.alloc (.cells #[.int .u8 97] 5 (1, 2))).alloc (.cells #[.int .u8 98] 5 (1, 2))).heap.size = w.heap.size + 2 := by simp
  have h1 : ((w.alloc (.cells #[.int .u8 97] 5 (1, 2))).alloc (.cells #[.int .u8 98] 5 (1, 2))).heap[w.heap.size]? = some (.cells #[.int .u8 97] 5 (1, 2)) :=
    (Below.heap_alloc _ _ _ (by simp)).trans (blk_new w _)
  have h2 : ((w.alloc (.cells #[.int .u8 97] 5 (1, 2))).alloc (.cells #[.int .u8 98] 5 (1, 2))).heap[w.heap.size + 1]? = some (.cells #[.int .u8 98] 5 (1, 2)) := by
    have := blk_new (w.alloc (.cells #[.int .u8 97] 5 (1, 2))) (.cells #[.int .u8 98] 5 (1, 2))
    simpa using this
  have hz := awakeW_size w
  have := F_lit (w := (w.alloc (.cells #[.int .u8 97] 5 (1, 2))).alloc (.cells #[.int .u8 98] 5 (1, 2))) (vs := [.slice (some ⟨w.heap.size, 0, none⟩) 1 1, .slice (some ⟨w.heap.size + 1, 0, none⟩) 1 1]) (xs := [[97], [98]]) (okp := fun k => w.heap.size ≤ k ∧ k < w.heap.size + 2) (ok := fun k => w.heap.size ≤ k ∧ k < (awakeW w).heap.size) rfl (by simp)
    (fun j hj => by
      have : j = 0 ∨ j = 1 := by simp at hj; omega
      rcases this with rfl | rfl
      · exact Kd.FK_mono (FK_blk h1) (fun k hk => by omega)
      · exact Kd.FK_mono (FK_blk h2) (fun k hk => by omega)) (fun k hk => by rw [hz]; omega) (by rw [hs1, hz]; omega) (fun k hk => by rw [hs1]; omega)
  rw [hs1] at this
  exact this

set_option maxRecDepth 100000 in
set_option maxHeartbeats 1000000 in
theorem awake_journal (w : World) : Calls Try.prog 33 #[] w fun e w' => e = .returned (.bool true) ∧ Below w.heap.size w w' := by
  go_enter Try.func33, Try.ntmps33
  go_wp2_with fail
  refine (new_any _ 1000 (by decide) (by decide)).mono ?_
  rintro e w1 ⟨rfl, hd1, hb1⟩
  go_wp2_with fail
  refine (open_quiet w1 (fun k => k = w.heap.size) w.heap.size (DS.new 1000) 1000 [] [] [] hd1 (fun k hk => by subst hk; exact hd1.lt) (Quiet.new 1000) (hid rfl) (hid rfl) (by simp)).mono ?_
  rintro e w2 ⟨gj, D2, rfl, hj2, hf2, q2⟩
  have hb2 : Below w.heap.size w w2 := hb1.trans (hf2.below hb1.size (fun k hk => by omega))
  have hj3 : JD w2 (fun k => w.heap.size ≤ k ∧ k < w2.heap.size) gj w.heap.size [] false D2 := (hj2.mono (S1 := fun k => w.heap.size ≤ k) (fun k hk => by rcases hk with hk | hk; omega; have := hb1.size; omega)).bound
  generalize hgd : w.heap.size = gd at *
  have HJ := hid hj3
  have Hgd := hid hgd
  clear hd1 hf2 hj2 hb1 hj3 hgd
  have kc := fun (w : World) (C : Array Value) (n c : Nat) => Lib.run_convert_bytes_const (P := Try.prog) w 30 5 C n c Try.underlying30 Try.underlying5
  have kc2 := kc (w2.alloc (.cells #[.int .u8 97] 5 (1, 2))) #[.int .u8 98] 1 1
  rw [show (w2.alloc (.cells #[.int .u8 97] 5 (1, 2))).heap.size = w2.heap.size + 1 by simp] at kc2
  have hrow := awake_rows w2
  have hj4 := HJ.out.move (w1 := awakeW w2) (awakeW_below w2).size fun k hk hl => (awakeW_below w2).block k hl
  have hvr : VR [[97], [98]] := ⟨by decide, by decide, fun r hr => by simp at hr; rcases hr with rfl | rfl <;> decide, fun r hr => by simp at hr; rcases hr with rfl | rfl <;> (intro x hx; simp at hx; subst hx; decide)⟩
  obtain ⟨D3, e3, q3⟩ := q2.jappend_ok (F := frameP [[97], [98]]) (by decide)
  have hzz := awakeW_size w2
  have hbA := awakeW_below w2
  go_wp2_with fail
  refine (append_jd (awakeW w2) _ (fun k => w2.heap.size ≤ k ∧ k < (awakeW w2).heap.size) gj gd [] [[97], [98]] [[97], [98]] D2 D3 0 false _ 2 2 hj4 hrow (fun k hk => ⟨fun h => by omega, hk.2⟩) (Nat.le_refl _) hvr (hid e3.symm) (hid rfl) (by simp)).mono ?_
  rintro e w3 ⟨rfl, hj5, hf5⟩
  have hgw : gd ≤ w2.heap.size := by rw [← Hgd.out]; exact hb2.size
  have hb3 : Below gd w w3 := hb2.trans ((hbA.mono hgw).trans (hf5.below (by omega) (fun k hk => hk.1)))
  obtain ⟨Sd, hd5⟩ := hj5.disk
  have hb3' : Below w.heap.size w w3 := by rw [Hgd.out]; exact hb3
  clear hj4 hrow hf5 hj5 hb2 hbA hzz kc kc2 hb3 e3 q2 HJ
  go_wp2_with fail
  refine (crash_any _ Sd gd D3 0 0 hd5).mono ?_
  rintro e w4 ⟨g4, rfl, hd6, hb6⟩
  have q4 := q3.crash_ 0 0
  have hd7 := hd6.bound
  clear hd5 hd6
  go_wp2_with fail
  refine (open_quiet _ _ g4 _ 1000 [[[97], [98]]] [[97], [98]] _ hd7 (fun k hk => hk.2) q4 (hid (by simp [framesP])) (hid rfl) (by simpa using hvr)).mono ?_
  rintro e w5 ⟨g5, D5, rfl, hj8, hf8, _⟩
  have hb9 : Below w.heap.size w w5 := hb3'.trans ((hb6.mono hb3'.size).trans (hf8.below (by have := hb6.size; have := hb3'.size; omega) (fun k hk => by have := hb3'.size; omega)))
  obtain ⟨Sj, hj9⟩ := hj8.jour
  clear hj8 hf8 hd7 hb6 hb3'
  go_wp2_with fail
  refine (len_any _ _ _ _ _ _ 2 hj9 (hid rfl)).mono ?_
  rintro e w6 ⟨rfl, rfl⟩
  go_wp2
  go_ret
  exact ⟨rfl, hb9⟩
end Go.Proofs.Ytnakolpaabpifaa
