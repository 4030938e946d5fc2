/- The contract of the disk's crash. -/
import Derived.Test.YtnakolpaabpifaaA2
import Derived.Deep.RegionHeld3
import Derived.IntWalk
import Derived.StillTailTactics
import Derived.Laws.BitsAllLaws
set_option linter.unusedVariables false
set_option linter.unusedSimpArgs false
namespace Go.Proofs.Ytnakolpaabpifaa
open Go.RowKit Go.Proofs.YtnakolpaabpifaaW.PrintWords

set_option maxHeartbeats 400000 in
theorem crash_nil (w : World) (keep flip : Int) : Calls Try.prog 18 #[.pointer none, .int .i64 keep, .int .i64 flip] w fun e w' => e = .returned (.pointer none) ∧ w = w' := by
  go_enter Try.func18, Try.ntmps18
  go_wp2
  go_ret
  exact ⟨rfl, rfl⟩

theorem xor_byte (x y : Int) (h0 : 0 ≤ x) (h1 : x < 256) (h2 : 0 ≤ y) (h3 : y < 256) : 0 ≤ Go.bits .xor .u8 x y ∧ Go.bits .xor .u8 x y < 256 := by
  rw [u8_xor x y h0 h1 h2 h3]
  have := Nat.xor_lt_two_pow (n := 8) (x := x.toNat) (y := y.toNat) (by omega) (by omega)
  omega
theorem rd_byte {l : List Int} (h : ∀ x ∈ l, 0 ≤ x ∧ x < 256) (i : Int) : 0 ≤ rd l i ∧ rd l i < 256 := by
  unfold rd
  rw [List.getD_eq_getElem?_getD]
  rcases Nat.lt_or_ge i.toNat l.length with hi | hi
  · rw [List.getElem?_eq_getElem hi]
    exact h _ (List.getElem_mem hi)
  · rw [List.getElem?_eq_none hi]
    simp

/-- The last step of a crash: the number of durable bytes is laid down. -/
theorem crash_end {w W1 : World} {g' N c2 : Nat} {A2 : Option Addr} {L : List Int} {D : DS} {keep flip : Int} (hB2 : Below w.heap.size w W1)
    (hblk : W1.heap[g']? = some (.cells #[.int .i64 D.room, .slice A2 N c2, .int .i64 0, .int .i64 0, .bool false, .int .i64 0, .bool false] 49 (0, 0)))
    (hown1 : OwnB W1 (fun k => w.heap.size ≤ k) (.slice A2 N c2) L) (hgs : w.heap.size ≤ g') (hsv : D.survive keep flip = L) (hll : L.length = N) (h0 : 0 ≤ D.room) (h1 : D.room ≤ 262144) (hLr : (N : Int) ≤ D.room) (hLb : ∀ x ∈ L, 0 ≤ x ∧ x < 256) :
    ∃ x, Ending.returned (.pointer (some ⟨g', 0, none⟩)) = .returned (.pointer (some ⟨x, 0, none⟩)) ∧ DiskAt (W1.setCell ⟨g', 2, none⟩ (.int .i64 (N : Int))) (fun k => w.heap.size ≤ k) x (D.crash keep flip) ∧ Below w.heap.size w (W1.setCell ⟨g', 2, none⟩ (.int .i64 (N : Int))) := by
  refine ⟨g', rfl, .mk _ (.slice A2 N c2) (blk_set hblk 2 _) (by simp [DS.crash, hsv, hll]) ?_ hgs ?_, hB2.setCell hgs _⟩
  · simp only [DS.crash, hsv]
    exact hown1.set hblk (by decide) 2 _
  · constructor <;> simp only [DS.crash, hsv, hll]
    · exact h0
    · exact h1
    · exact hLr
    · omega
    · omega
    · exact hLb

set_option maxHeartbeats 400000 in
theorem crash_any (w : World) (S : Nat → Prop) (g : Nat) (D : DS) (keep flip : Int) (hd : DiskAt w S g D) :
    Calls Try.prog 18 #[.pointer (some ⟨g, 0, none⟩), .int .i64 keep, .int .i64 flip] w fun e w' => ∃ g', e = .returned (.pointer (some ⟨g', 0, none⟩)) ∧ DiskAt w' (fun k => w.heap.size ≤ k) g' (D.crash keep flip) ∧ Below w.heap.size w w' := by
  obtain ⟨v, hb, ho, hs, hk⟩ := hd
  obtain ⟨A1, c1, rfl, hl1, hr1⟩ := ho.reads
  have q0 : w.cell? ⟨g, 0, none⟩ = some (.int .i64 D.room) := blk_cell hb 0
  have q1 : w.cell? ⟨g, 1, none⟩ = some (.slice A1 D.b.length c1) := blk_cell hb 1
  have q2 : w.cell? ⟨g, 2, none⟩ = some (.int .i64 D.dur) := blk_cell hb 2
  have hd0 := hk.d0
  have hd1 := hk.d1
  have hlen := hk.l
  have hroom := hk.r1
  have hm : 0 < (D.b.length : Int) - D.dur + 1 := by omega
  have ht1 : keep.tmod ((D.b.length : Int) - D.dur + 1) < (D.b.length : Int) - D.dur + 1 := Int.tmod_lt_of_pos _ hm
  have ht2 : -((D.b.length : Int) - D.dur + 1) < keep.tmod ((D.b.length : Int) - D.dur + 1) := by
    have := Int.lt_tmod_of_pos keep hm
    exact this
  go_enter Try.func18, Try.ntmps18
  go_wp2
  go_quiet (fail)
  go_wp2
  · generalize hkk : keep.tmod ((D.b.length : Int) - D.dur + 1) + ((D.b.length : Int) - D.dur + 1) = k
    have hneg : keep.tmod ((D.b.length : Int) - D.dur + 1) < 0 := by assumption
    have hk0 : 0 ≤ k := by omega
    have hk1 : k ≤ (D.b.length : Int) - D.dur := by omega
    have hkd : Hid (D.keeps keep = k) := by unfold DS.keeps; simp only; rw [if_pos hneg]; exact hkk
    clear hkk ht1 ht2 hneg
    have hrt : ∀ n, ReadsInt (w.drewN n) .u8 A1 (D.dur + k).toNat (D.b.take (D.dur + k).toNat) := fun n => hr1.take_ (D.dur + k).toNat (by omega)
    have hct : (D.dur + k).toNat ≤ c1 := by omega
    have hct2 : (D.dur + k).toNat ≤ 140737488355328 := by omega
    have hsl0 : 0 ≤ D.dur + k := by omega
    have hsl1 : D.dur + k ≤ (c1 : Int) := by omega
    have hslw : IntKind.i64.wrap (D.dur + k) = D.dur + k := IntWalk.i64_in _ (by omega)
    go_region_held3 (fun w' => w'.cell? ⟨g, 0, none⟩ = some (.int .i64 D.room) ∧ w'.cell? ⟨g, 1, none⟩ = some (.slice A1 D.b.length c1) ∧ w'.cell? ⟨g, 2, none⟩ = some (.int .i64 D.dur))
      (first | go_keep | exact ⟨x0, x1, x2⟩) ((go_at_call 37; refine (clone_any _ A1 _ c1 _ (hrt _) hct hct2).mono ?_; rintro e w' ⟨A2, c2, rfl, ho1, hb1⟩; have x0 := pw_cell_below hb1 q0; have x1 := pw_cell_below hb1 q1; have x2 := pw_cell_below hb1 q2))
    rename_i hHeld
    clear hslw x0 x1 x2 q0 q1 q2 hb ho hr1 hrt hHeld
    have hll : (D.b.take (D.dur + k).toNat).length = (D.dur + k).toNat := by rw [List.length_take]; omega
    have hkN : Hid (D.survive keep flip = if 0 < k ∧ flip.tmod 2 ≠ 0 then (D.b.take (D.dur + k).toNat).set ((D.b.take (D.dur + k).toNat).length - 1) (Go.bits .xor .u8 (rd (D.b.take (D.dur + k).toNat) ((D.b.take (D.dur + k).toNat).length - 1)) 85) else D.b.take (D.dur + k).toNat) := by
      unfold DS.survive Hid
      rw [hkd.out]
    have hNk : 0 < k → 0 < (D.dur + k).toNat := fun h => by omega
    have hNl : (D.dur + k).toNat ≤ 262144 := by omega
    have hLr : ((D.dur + k).toNat : Int) ≤ D.room := by omega
    have hLb : ∀ x ∈ D.b.take (D.dur + k).toNat, 0 ≤ x ∧ x < 256 := fun x hx => hk.bytes x (List.mem_of_mem_take hx)
    clear hct hct2 hsl0 hsl1 hkd hk0
    have hblk := blk_new w' (.cells #[.int .i64 D.room, .slice A2 (D.dur + k).toNat c2, .int .i64 0, .int .i64 0, .bool false, .int .i64 0, .bool false] 49)
    have hown1 : OwnB (w'.alloc (.cells #[.int .i64 D.room, .slice A2 (D.dur + k).toNat c2, .int .i64 0, .int .i64 0, .bool false, .int .i64 0, .bool false] 49)) (fun k => w.heap.size ≤ k) (.slice A2 (D.dur + k).toNat c2) (D.b.take (D.dur + k).toNat) := ho1.move fun j _ hj => Below.heap_alloc _ _ _ hj
    have hb1' : Below w.heap.size w w' := ⟨hb1.os, hb1.tape, hb1.output, hb1.size, hb1.block⟩
    have hB2 := hb1'.alloc hb1'.size (.cells #[.int .i64 D.room, .slice A2 (D.dur + k).toNat c2, .int .i64 0, .int .i64 0, .bool false, .int .i64 0, .bool false] 49)
    have hgs : w.heap.size ≤ w'.heap.size := hb1.size
    clear ho1 hb1 hb1'
    generalize (D.dur + k).toNat = N at *
    generalize D.b.take N = L at *
    generalize w'.alloc (.cells #[.int .i64 D.room, .slice A2 N c2, .int .i64 0, .int .i64 0, .bool false, .int .i64 0, .bool false] 49) = W1 at *
    generalize w'.heap.size = g' at *
    have HLL := hid hll
    clear hll
    have s1 : W1.cell? ⟨g', 1, none⟩ = some (.slice A2 N c2) := blk_cell hblk 1
    have s2 : W1.cell? ⟨g', 2, none⟩ = some (.int .i64 0) := blk_cell hblk 2
    have fz := blk_frozen hblk
    have Hblk := hid hblk
    clear hblk
    by_cases hks : 0 < k
    · by_cases hfl : flip.tmod 2 = 0
      · have hfl' : (flip.tmod 2 != 0) = false := by simp [hfl]
        have Hfl := hid hfl
        clear hfl
        go_wp2
        go_ret
        have hsv : D.survive keep flip = L := by rw [hkN.out, if_neg (fun h => h.2 Hfl.out)]
        exact crash_end hB2 Hblk.out hown1 hgs hsv HLL.out hk.r0 hk.r1 hLr hLb
      · have hfl' : (flip.tmod 2 != 0) = true := by simp [hfl]
        have Hfl := hid hfl
        clear hfl
        have hN0 : 0 < N := hNk hks
        obtain ⟨ga, ca, hA, _, _⟩ := hown1.1.form (by rw [HLL.out]; exact hN0)
        obtain ⟨rfl, rfl⟩ : A2 = some ⟨ga, 0, none⟩ ∧ ca = c2 := by injection hA with e1 e2 e3; exact ⟨e1, e3.symm⟩
        clear hA
        have hi0 : (0 : Int) ≤ (N : Int) - 1 := by omega
        have hi1 : (N : Int) - 1 < (N : Int) := by omega
        have hiw : IntKind.i64.wrap ((N : Int) - 1) = (N : Int) - 1 := IntWalk.i64_in _ (by omega)
        have hrow := hown1.1
        rw [HLL.out] at hrow
        obtain ⟨a1, a2⟩ := own_at hrow ((N : Int) - 1) hi0 hi1
        have Hst := hid (own_store hrow ((N : Int) - 1) (Go.bits .xor .u8 (rd L ((N : Int) - 1)) 85))
        clear hrow
        have hgg : ga ≠ g' := fun e => hown1.ne Hblk.out (by decide) (by rw [← e]; rfl)
        have hgg' : g' ≠ ga := fun e => hgg e.symm
        have eN : ((N : Int) - 1).toNat = N - 1 := by omega
        rw [eN] at a1 a2 Hst
        clear eN
        have hi2 : 1 ≤ (N : Int) := by omega
        go_wp2
        go_still_tail 14, (by kernel_rfl)
        go_wp2
        go_ret
        have hsv : D.survive keep flip = L.set (N - 1) (Go.bits .xor .u8 (rd L ((N : Int) - 1)) 85) := by rw [hkN.out, if_pos ⟨hks, Hfl.out⟩, HLL.out]
        have hB3 : Below w.heap.size w (W1.setCell ⟨ga, N - 1, none⟩ (.int .u8 (Go.bits .xor .u8 (rd L ((N : Int) - 1)) 85))) := hB2.setCell (hown1.2 ga rfl) _
        have hbytes : ∀ x ∈ L.set (N - 1) (Go.bits .xor .u8 (rd L ((N : Int) - 1)) 85), 0 ≤ x ∧ x < 256 := by
          intro x hx
          rcases List.mem_or_eq_of_mem_set hx with h | h
          · exact hLb x h
          · subst h; exact xor_byte _ _ (rd_byte hLb _).1 (rd_byte hLb _).2 (by decide) (by decide)
        have hlen2 : (L.set (N - 1) (Go.bits .xor .u8 (rd L ((N : Int) - 1)) 85)).length = N := by rw [List.length_set, HLL.out]
        obtain ⟨x, e1, e2, e3⟩ := crash_end hB3 ((Below.heap_setCell _ _ _ _ hgg').trans Hblk.out) ⟨by rw [hlen2]; exact Hst.out.1, hown1.2⟩ hgs hsv hlen2 hk.r0 hk.r1 hLr hbytes
        exact ⟨x, e1, e2.move fun _ _ _ => rfl, e3.drew⟩
    · go_wp2
      go_ret
      have hsv : D.survive keep flip = L := by rw [hkN.out, if_neg (fun h => by have := h.1; omega)]
      exact crash_end hB2 Hblk.out hown1 hgs hsv HLL.out hk.r0 hk.r1 hLr hLb
  · generalize hkk : keep.tmod ((D.b.length : Int) - D.dur + 1) = k
    have hneg : 0 ≤ k := by rw [← hkk]; assumption
    have hk0 : 0 ≤ k := hneg
    have hk1 : k ≤ (D.b.length : Int) - D.dur := by omega
    have hkd : Hid (D.keeps keep = k) := by unfold DS.keeps; simp only; rw [if_neg (by omega)]; exact hkk
    clear hkk ht1 ht2 hneg
    have hrt : ∀ n, ReadsInt (w.drewN n) .u8 A1 (D.dur + k).toNat (D.b.take (D.dur + k).toNat) := fun n => hr1.take_ (D.dur + k).toNat (by omega)
    have hct : (D.dur + k).toNat ≤ c1 := by omega
    have hct2 : (D.dur + k).toNat ≤ 140737488355328 := by omega
    have hsl0 : 0 ≤ D.dur + k := by omega
    have hsl1 : D.dur + k ≤ (c1 : Int) := by omega
    have hslw : IntKind.i64.wrap (D.dur + k) = D.dur + k := IntWalk.i64_in _ (by omega)
    go_region_held3 (fun w' => w'.cell? ⟨g, 0, none⟩ = some (.int .i64 D.room) ∧ w'.cell? ⟨g, 1, none⟩ = some (.slice A1 D.b.length c1) ∧ w'.cell? ⟨g, 2, none⟩ = some (.int .i64 D.dur))
      (first | go_keep | exact ⟨x0, x1, x2⟩) ((go_at_call 37; refine (clone_any _ A1 _ c1 _ (hrt _) hct hct2).mono ?_; rintro e w' ⟨A2, c2, rfl, ho1, hb1⟩; have x0 := pw_cell_below hb1 q0; have x1 := pw_cell_below hb1 q1; have x2 := pw_cell_below hb1 q2))
    rename_i hHeld
    clear hslw x0 x1 x2 q0 q1 q2 hb ho hr1 hrt hHeld
    have hll : (D.b.take (D.dur + k).toNat).length = (D.dur + k).toNat := by rw [List.length_take]; omega
    have hkN : Hid (D.survive keep flip = if 0 < k ∧ flip.tmod 2 ≠ 0 then (D.b.take (D.dur + k).toNat).set ((D.b.take (D.dur + k).toNat).length - 1) (Go.bits .xor .u8 (rd (D.b.take (D.dur + k).toNat) ((D.b.take (D.dur + k).toNat).length - 1)) 85) else D.b.take (D.dur + k).toNat) := by
      unfold DS.survive Hid
      rw [hkd.out]
    have hNk : 0 < k → 0 < (D.dur + k).toNat := fun h => by omega
    have hNl : (D.dur + k).toNat ≤ 262144 := by omega
    have hLr : ((D.dur + k).toNat : Int) ≤ D.room := by omega
    have hLb : ∀ x ∈ D.b.take (D.dur + k).toNat, 0 ≤ x ∧ x < 256 := fun x hx => hk.bytes x (List.mem_of_mem_take hx)
    clear hct hct2 hsl0 hsl1 hkd hk0
    have hblk := blk_new w' (.cells #[.int .i64 D.room, .slice A2 (D.dur + k).toNat c2, .int .i64 0, .int .i64 0, .bool false, .int .i64 0, .bool false] 49)
    have hown1 : OwnB (w'.alloc (.cells #[.int .i64 D.room, .slice A2 (D.dur + k).toNat c2, .int .i64 0, .int .i64 0, .bool false, .int .i64 0, .bool false] 49)) (fun k => w.heap.size ≤ k) (.slice A2 (D.dur + k).toNat c2) (D.b.take (D.dur + k).toNat) := ho1.move fun j _ hj => Below.heap_alloc _ _ _ hj
    have hb1' : Below w.heap.size w w' := ⟨hb1.os, hb1.tape, hb1.output, hb1.size, hb1.block⟩
    have hB2 := hb1'.alloc hb1'.size (.cells #[.int .i64 D.room, .slice A2 (D.dur + k).toNat c2, .int .i64 0, .int .i64 0, .bool false, .int .i64 0, .bool false] 49)
    have hgs : w.heap.size ≤ w'.heap.size := hb1.size
    clear ho1 hb1 hb1'
    generalize (D.dur + k).toNat = N at *
    generalize D.b.take N = L at *
    generalize w'.alloc (.cells #[.int .i64 D.room, .slice A2 N c2, .int .i64 0, .int .i64 0, .bool false, .int .i64 0, .bool false] 49) = W1 at *
    generalize w'.heap.size = g' at *
    have HLL := hid hll
    clear hll
    have s1 : W1.cell? ⟨g', 1, none⟩ = some (.slice A2 N c2) := blk_cell hblk 1
    have s2 : W1.cell? ⟨g', 2, none⟩ = some (.int .i64 0) := blk_cell hblk 2
    have fz := blk_frozen hblk
    have Hblk := hid hblk
    clear hblk
    by_cases hks : 0 < k
    · by_cases hfl : flip.tmod 2 = 0
      · have hfl' : (flip.tmod 2 != 0) = false := by simp [hfl]
        have Hfl := hid hfl
        clear hfl
        go_wp2
        go_ret
        have hsv : D.survive keep flip = L := by rw [hkN.out, if_neg (fun h => h.2 Hfl.out)]
        exact crash_end hB2 Hblk.out hown1 hgs hsv HLL.out hk.r0 hk.r1 hLr hLb
      · have hfl' : (flip.tmod 2 != 0) = true := by simp [hfl]
        have Hfl := hid hfl
        clear hfl
        have hN0 : 0 < N := hNk hks
        obtain ⟨ga, ca, hA, _, _⟩ := hown1.1.form (by rw [HLL.out]; exact hN0)
        obtain ⟨rfl, rfl⟩ : A2 = some ⟨ga, 0, none⟩ ∧ ca = c2 := by injection hA with e1 e2 e3; exact ⟨e1, e3.symm⟩
        clear hA
        have hi0 : (0 : Int) ≤ (N : Int) - 1 := by omega
        have hi1 : (N : Int) - 1 < (N : Int) := by omega
        have hiw : IntKind.i64.wrap ((N : Int) - 1) = (N : Int) - 1 := IntWalk.i64_in _ (by omega)
        have hrow := hown1.1
        rw [HLL.out] at hrow
        obtain ⟨a1, a2⟩ := own_at hrow ((N : Int) - 1) hi0 hi1
        have Hst := hid (own_store hrow ((N : Int) - 1) (Go.bits .xor .u8 (rd L ((N : Int) - 1)) 85))
        clear hrow
        have hgg : ga ≠ g' := fun e => hown1.ne Hblk.out (by decide) (by rw [← e]; rfl)
        have hgg' : g' ≠ ga := fun e => hgg e.symm
        have eN : ((N : Int) - 1).toNat = N - 1 := by omega
        rw [eN] at a1 a2 Hst
        clear eN
        have hi2 : 1 ≤ (N : Int) := by omega
        go_wp2
        go_still_tail 14, (by kernel_rfl)
        go_wp2
        go_ret
        have hsv : D.survive keep flip = L.set (N - 1) (Go.bits .xor .u8 (rd L ((N : Int) - 1)) 85) := by rw [hkN.out, if_pos ⟨hks, Hfl.out⟩, HLL.out]
        have hB3 : Below w.heap.size w (W1.setCell ⟨ga, N - 1, none⟩ (.int .u8 (Go.bits .xor .u8 (rd L ((N : Int) - 1)) 85))) := hB2.setCell (hown1.2 ga rfl) _
        have hbytes : ∀ x ∈ L.set (N - 1) (Go.bits .xor .u8 (rd L ((N : Int) - 1)) 85), 0 ≤ x ∧ x < 256 := by
          intro x hx
          rcases List.mem_or_eq_of_mem_set hx with h | h
          · exact hLb x h
          · subst h; exact xor_byte _ _ (rd_byte hLb _).1 (rd_byte hLb _).2 (by decide) (by decide)
        have hlen2 : (L.set (N - 1) (Go.bits .xor .u8 (rd L ((N : Int) - 1)) 85)).length = N := by rw [List.length_set, HLL.out]
        obtain ⟨x, e1, e2, e3⟩ := crash_end hB3 ((Below.heap_setCell _ _ _ _ hgg').trans Hblk.out) ⟨by rw [hlen2]; exact Hst.out.1, hown1.2⟩ hgs hsv hlen2 hk.r0 hk.r1 hLr hbytes
        exact ⟨x, e1, e2.move fun _ _ _ => rfl, e3.drew⟩
    · go_wp2
      go_ret
      have hsv : D.survive keep flip = L := by rw [hkN.out, if_neg (fun h => by have := h.1; omega)]
      exact crash_end hB2 Hblk.out hown1 hgs hsv HLL.out hk.r0 hk.r1 hLr hLb

/-! The contracts with the answer named. -/
theorem append_is (w : World) (S : Nat → Prop) (g : Nat) (D D1 : DS) (r : Int) (hd : DiskAt w S g D) (A : Option Addr) (n c : Nat) (bs : List Int) (hr : ReadsInt w .u8 A n bs) (hc : n ≤ c) (ha : ∀ ad, A = some ad → 0 < n → ¬ S ad.block)
    (hby : ∀ x ∈ bs, 0 ≤ x ∧ x < 256) (h : Hid (D.append bs = (r, D1))) :
    Calls Try.prog 15 #[.pointer (some ⟨g, 0, none⟩), .slice A n c] w fun e w' => e = .returned (.int .i64 r) ∧ DiskAt w' (Ext S w) g D1 ∧ Fr S w w' := by
  have := append_any w S g D hd A n c bs hr hc ha hby
  rw [h.out] at this
  exact this
theorem sync_is (w : World) (S : Nat → Prop) (g : Nat) (D D1 : DS) (r : Int) (hd : DiskAt w S g D) (h : Hid (D.sync = (r, D1))) :
    Calls Try.prog 16 #[.pointer (some ⟨g, 0, none⟩)] w fun e w' => e = .returned (.int .i64 r) ∧ DiskAt w' S g D1 ∧ Fr S w w' := by
  have := sync_any w S g D hd
  rw [h.out] at this
  exact this
theorem truncate_is (w : World) (S : Nat → Prop) (g : Nat) (D D1 : DS) (n r : Int) (hd : DiskAt w S g D) (h : Hid (D.truncate n = (r, D1))) :
    Calls Try.prog 26 #[.pointer (some ⟨g, 0, none⟩), .int .i64 n] w fun e w' => e = .returned (.int .i64 r) ∧ DiskAt w' S g D1 ∧ Fr S w w' := by
  have := truncate_any w S g D n hd
  rw [h.out] at this
  exact this
theorem crash_is (w : World) (S : Nat → Prop) (g : Nat) (D D1 : DS) (keep flip : Int) (hd : DiskAt w S g D) (h : Hid (D.crash keep flip = D1)) :
    Calls Try.prog 18 #[.pointer (some ⟨g, 0, none⟩), .int .i64 keep, .int .i64 flip] w fun e w' => ∃ g', e = .returned (.pointer (some ⟨g', 0, none⟩)) ∧ DiskAt w' (fun k => w.heap.size ≤ k) g' D1 ∧ Below w.heap.size w w' := by
  have := crash_any w S g D keep flip hd
  rw [h.out] at this
  exact this
theorem read_is (w : World) (S : Nat → Prop) (g : Nat) (D : DS) (l : List Int) (n : Nat) (hd : DiskAt w S g D) (h : Hid (D.b = l ∧ l.length = n)) :
    Calls Try.prog 17 #[.pointer (some ⟨g, 0, none⟩)] w fun e w' => ∃ A1 c1, e = .returned (.slice A1 n c1) ∧ OwnB w' (fun k => w.heap.size ≤ k) (.slice A1 n c1) l ∧ Below w.heap.size w w' := by
  have := read_any w S g D hd
  rw [h.out.1, h.out.2] at this
  exact this
theorem size_is (w : World) (S : Nat → Prop) (g : Nat) (D : DS) (n : Int) (hd : DiskAt w S g D) (h : Hid ((D.b.length : Int) = n)) :
    Calls Try.prog 20 #[.pointer (some ⟨g, 0, none⟩)] w fun e w' => e = .returned (.int .i64 n) ∧ w = w' := by
  have := size_any w S g D hd
  rw [h.out] at this
  exact this
end Go.Proofs.Ytnakolpaabpifaa
