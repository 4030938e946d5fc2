/- slices.Concat on slices of bytes; the checksum of a frame. -/
import Derived.Test.YtnakolpaabpifaaJ4
set_option linter.unusedVariables false
set_option linter.unusedSimpArgs false
namespace Go.Proofs.Ytnakolpaabpifaa
open Go.RowKit Go.Proofs.YtnakolpaabpifaaW.PrintWords

/-- Element i of a row of slices of bytes. -/
theorem row_at {w : World} {A : Option Addr} {n : Nat} {xs : List (List Int)} (h : Kd.C KB w A n xs) (i : Nat) (hi : i < xs.length) :
    ∃ ad A0 c0, A = some ad ∧ w.cell? (ad.add i) = some (.slice A0 xs[i].length c0) ∧ xs[i].length ≤ c0 ∧ ReadsInt w .u8 A0 xs[i].length xs[i] := by
  have hn := h.1
  obtain ⟨ad, c, e, _, hK, hc0⟩ := Kd.C_get h ([] : List Int) (i : Int) (by omega) (by omega)
  have hx : xs.getD (i : Int).toNat [] = xs[i] := by rw [Int.toNat_natCast, List.getD_eq_getElem?_getD, List.getElem?_eq_getElem hi]; rfl
  rw [hx] at hK
  obtain ⟨A0, c0, rfl, l0, g0⟩ := hK
  refine ⟨ad, A0, c0, e, ?_, l0, readsInt_of_C g0⟩
  have hq := hc0 0 _ rfl
  have e2 : (i : Int).toNat * KB.sz + 0 = i := by show (i : Int).toNat * 1 + 0 = i; omega
  rwa [e2] at hq
def flatP (xs : List (List Int)) (j : Nat) : List Int := (xs.take j).flatten
theorem flatP_zero (xs : List (List Int)) : flatP xs 0 = [] := by simp [flatP]
theorem flatP_succ (xs : List (List Int)) (i : Nat) (hi : i < xs.length) : flatP xs (i + 1) = flatP xs i ++ xs[i] := by
  unfold flatP
  rw [List.take_succ_eq_append_getElem hi, List.flatten_append, List.flatten_singleton]
theorem flatP_le (xs : List (List Int)) (i : Nat) : (flatP xs i).length ≤ xs.flatten.length := by
  have : xs.flatten = (xs.take i).flatten ++ (xs.drop i).flatten := by rw [← List.flatten_append, List.take_append_drop]
  rw [this, List.length_append]
  unfold flatP
  omega
theorem flatP_all (xs : List (List Int)) (n : Nat) (h : xs.length = n) : flatP xs n = xs.flatten := by
  unfold flatP; rw [← h, List.take_length]

set_option maxHeartbeats 800000 in
theorem concat_any (w : World) (A : Option Addr) (n c : Nat) (xs : List (List Int)) (L : List Int) (hr : Kd.C KB w A n xs) (hc : n ≤ c) (hL : xs.flatten = L) (hl : L.length ≤ 1000000000) (hn9 : n ≤ 1000000000) :
    Calls Try.prog 54 #[.slice A n c] w fun e w' => ∃ A1 c1, e = .returned (.slice A1 L.length c1) ∧ OwnB w' (fun k => w.heap.size ≤ k) (.slice A1 L.length c1) L ∧ Below w.heap.size w w' := by
  have hn : xs.length = n := hr.1
  have HR := hid hr
  have hall : Hid (flatP xs n = L) := hid ((flatP_all xs n hn).trans hL)
  have hle : ∀ i, (flatP xs i).length ≤ L.length := fun i => by have := flatP_le xs i; rwa [hL] at this
  clear hr hL
  go_enter Try.func54, Try.ntmps54
  go_wp2
  go_loopw [3, 5, 11] (fun v3 v5 v11 wr => ∃ k : Nat, v3 = .int .i64 (((flatP xs k).length : Nat) : Int) ∧ v11 = .int .i64 k ∧ k ≤ n ∧ Below w.heap.size w wr) (fun _ _ v11 _ => n - (intOf v11).toNat)
  case atStart => exact ⟨0, by rw [flatP_zero]; rfl, rfl, Nat.zero_le _, Below.refl _ _⟩
  case round =>
    obtain ⟨k, rfl, rfl, hk, hb⟩ := hrel
    have hbd := hle k
    by_cases hlt : k < n
    · obtain ⟨ad, A0, c0, rfl, q1, _, _⟩ := row_at (Kd.C_below HR.out hb) k (by omega)
      have hft := flatP_succ xs k (by omega)
      have hbd2 := hle (k + 1)
      have hfl : (flatP xs (k + 1)).length = (flatP xs k).length + xs[k].length := by rw [hft, List.length_append]
      clear hft
      generalize hg : (flatP xs k).length = s at *
      generalize hx : xs[k].length = m at *
      go_wp2
      go_roundw
      case rel => exact ⟨k + 1, by go_num, by go_num, by omega, hb⟩
      case measure => simp [intOf]; omega
    · obtain rfl : k = n := by omega
      have hall2 := hall.out
      rw [hall2] at *
      clear hbd hall2
      go_wp2_with fail
      refine (grow_nil _ _ (by omega) (by omega)).mono ?_
      rintro e w1 ⟨A1, c1, rfl, ho1, hb1⟩
      have hb2 : Below w.heap.size w w1 := hb.trans (hb1.mono hb.size)
      have ho2 : OwnB w1 (fun k => w.heap.size ≤ k) (.slice A1 0 c1) [] := ho1.mono fun k hk => by have := hb.size; omega
      clear ho1 hb1 hb
      go_wp2
      go_loopw [6, 8, 27] (fun v6 v8 v27 wr => ∃ (j : Nat) (A2 : Option Addr) (c2 : Nat), v6 = .slice A2 (flatP xs j).length c2 ∧ v27 = .int .i64 j ∧ j ≤ k ∧ OwnB wr (fun k => w.heap.size ≤ k) (.slice A2 (flatP xs j).length c2) (flatP xs j) ∧ Below w.heap.size w wr) (fun _ _ v27 _ => k - (intOf v27).toNat)
      case atStart => exact ⟨0, A1, c1, by rw [flatP_zero]; rfl, rfl, Nat.zero_le _, by rw [flatP_zero]; exact ho2, hb2⟩
      case round =>
        clear ho2 hb2
        obtain ⟨j, A2, c2, rfl, rfl, hj, ho, hb⟩ := hrel
        by_cases hlt : j < k
        · obtain ⟨ad, A0, c0, rfl, q1, q2, q3⟩ := row_at (Kd.C_below HR.out hb) j (by omega)
          have hft := hid (flatP_succ xs j (by omega))
          have hbd := hle (j + 1)
          rw [hft.out, List.length_append] at hbd
          go_wp2_with (at_builtin; refine wp_append_bytes (.tmp 31) (.tmp 32) rfl rfl (fun k => w.heap.size ≤ k) _ _ xs[j] A0 _ c0 rfl rfl ho q3 (by omega) ?_)
          intro A3 c3 w3 ho3 hf3
          have e3 : (flatP xs j).length + xs[j].length = (flatP xs (j + 1)).length := by rw [hft.out, List.length_append]
          rw [← hft.out, e3] at ho3
          rw [e3]
          have hb3 : Below w.heap.size w w3 := hb.trans ((hf3.below (B := w.heap.size) hb.size (fun k hk => ho.2 k hk)))
          have ho4 := ho3.mono (S1 := fun k => w.heap.size ≤ k) fun k hk => by rcases hk with hk | hk; exact hk; have := hb.size; omega
          clear ho3 hf3 ho hb q3
          go_wp2
          go_roundw
          case rel => exact ⟨j + 1, A3, c3, rfl, by go_num, by omega, ho4, hb3⟩
          case measure => simp [intOf]; omega
        · obtain rfl : j = k := by omega
          have h2 := hall.out
          rw [h2] at ho ⊢
          clear h2
          go_wp2
          go_ret
          exact ⟨A2, c2, rfl, ho, hb⟩

theorem OwnB.reads2 {w : World} {S : Nat → Prop} {A : Option Addr} {n c : Nat} {bs : List Int} (h : OwnB w S (.slice A n c) bs) : n = bs.length ∧ n ≤ c ∧ ReadsInt w .u8 A n bs := by
  obtain ⟨A', c', e, h1, h2⟩ := h.reads
  injection e with e1 e2 e3
  subst e1; subst e2; subst e3
  exact ⟨rfl, h1, h2⟩
theorem K_of_reads {w : World} {A : Option Addr} {c : Nat} {xs : List Int} (hr : ReadsInt w .u8 A xs.length xs) (hc : xs.length ≤ c) : KB.K w xs [.slice A xs.length c] := ⟨A, c, rfl, hc, C_of_readsInt hr⟩
/-- A row of slices of bytes that was just laid. -/
theorem C_lit {w : World} {vs : List Value} {xs : List (List Int)} (hl : vs.length = xs.length) (hm : vs.length ≤ 1000000000) (h : ∀ j (hj : j < xs.length), KB.K w xs[j] [vs[j]'(by omega)]) :
    Kd.C KB (w.alloc (.cells vs.toArray 30)) (some ⟨w.heap.size, 0, none⟩) vs.length xs := by
  have hbl := blk_new w (.cells vs.toArray 30)
  refine ⟨hl.symm, by omega, fun hp => ⟨_, rfl, fun j p hj => ?_⟩⟩
  obtain ⟨hjl, rfl⟩ := List.getElem?_eq_some_iff.1 hj
  refine ⟨[vs[j]'(by omega)], rfl, KB.K_below ((Below.refl _ _).alloc (Nat.le_refl _) _) (h j hjl), fun i u hu => ?_⟩
  have hi : i = 0 := by
    rcases i with _ | i
    · rfl
    · simp at hu
  subst hi
  rw [add_plain, blk_cell hbl]
  have e : j * KB.sz + 0 = j := by show j * 1 + 0 = j; omega
  rw [e, ← hu]
  simp [List.getElem?_eq_getElem (show j < vs.length by omega)]
theorem C_lit2 {w : World} {A B : Option Addr} {a b : Nat} {xs ys : List Int} (hx : ReadsInt w .u8 A xs.length xs) (ha : xs.length ≤ a) (hy : ReadsInt w .u8 B ys.length ys) (hb : ys.length ≤ b) :
    Kd.C KB (w.alloc (.cells #[.slice A xs.length a, .slice B ys.length b] 30)) (some ⟨w.heap.size, 0, none⟩) 2 [xs, ys] :=
  C_lit (vs := [.slice A xs.length a, .slice B ys.length b]) rfl (by simp) fun j hj => by
    have : j = 0 ∨ j = 1 := by simp at hj; omega
    rcases this with rfl | rfl
    · exact K_of_reads hx ha
    · exact K_of_reads hy hb
set_option maxHeartbeats 400000 in
theorem fsum_is (w : World) (A B : Option Addr) (c d : Nat) (xs ys zs : List Int) (hx : ReadsInt w .u8 A xs.length xs) (hc : xs.length ≤ c) (hy : ReadsInt w .u8 B ys.length ys) (hd : ys.length ≤ d) (hz : [xs, ys].flatten = zs) (bz : IsBytes zs) (hl : zs.length ≤ 1000000000) :
    Calls Try.prog 50 #[.slice A xs.length c, .slice B ys.length d] w fun e w' => e = .returned (.int .u32 (sumP zs)) ∧ Below w.heap.size w w' := by
  have hC := C_lit2 hx hc hy hd
  have hn : (zs.length : Int) ≤ 9223372036854775806 := by omega
  go_enter Try.func50, Try.ntmps50
  go_wp2_with fail
  refine (concat_any _ _ 2 2 [xs, ys] zs hC (Nat.le_refl _) hz hl (by omega)).mono ?_
  rintro e w1 ⟨A1, c1, rfl, ho1, hb1⟩
  obtain ⟨_, hc2, hr2⟩ := ho1.reads2
  have hb2 : Below w.heap.size w w1 := ((Below.refl _ _).alloc (Nat.le_refl _) _).trans (hb1.mono (by simp))
  clear hb1 ho1 hC hz
  go_wp2_with fail
  refine (csum_any _ _ _ _ zs hr2 hc2 bz hn).mono ?_
  rintro e w2 ⟨rfl, hb3⟩
  have hb := hb2.trans (hb3.mono hb2.size)
  clear hb2 hb3 hr2
  go_wp2
  go_ret
  exact ⟨rfl, hb⟩
theorem fsum_any (w : World) (A B : Option Addr) (n c m d : Nat) (xs ys : List Int) (hx : ReadsInt w .u8 A n xs) (hc : n ≤ c) (hy : ReadsInt w .u8 B m ys) (hd : m ≤ d) (bx : IsBytes xs) (by_ : IsBytes ys) (hl : n + m ≤ 1000000000) :
    Calls Try.prog 50 #[.slice A n c, .slice B m d] w fun e w' => e = .returned (.int .u32 (sumP (xs ++ ys))) ∧ Below w.heap.size w w' := by
  obtain rfl := len_of hx
  obtain rfl := len_of hy
  exact fsum_is w A B c d xs ys (xs ++ ys) hx hc hy hd (by simp) (bx.append by_) (by rw [List.length_append]; exact hl)
end Go.Proofs.Ytnakolpaabpifaa
