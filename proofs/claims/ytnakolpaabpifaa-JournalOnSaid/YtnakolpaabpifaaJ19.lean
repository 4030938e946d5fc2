/- The records of one call of Append: the law's batch. -/
import Derived.Test.YtnakolpaabpifaaJ18
set_option linter.unusedVariables false
set_option linter.unusedSimpArgs false
namespace Go.Proofs.Ytnakolpaabpifaa
open Go.RowKit Go.Proofs.YtnakolpaabpifaaW.PrintWords Go.Proofs.YtnakolpaabpifaaW.PrintLast

/-- A record that is being filled. -/
def Fill (w : World) (g m : Nat) : Prop := ∃ bs : List Int, OwnB w (fun k => k = g) (.slice (some ⟨g, 0, none⟩) m m) bs ∧ bs.length = m ∧ IsBytes bs
theorem Fill.at_ {w : World} {g m : Nat} (h : Fill w g m) (k : Nat) (hk : k < m) : (∃ v, w.cell? ⟨g, k, none⟩ = some (.int .u8 v)) ∧ w.frozen? ⟨g, k, none⟩ = false := by
  obtain ⟨bs, h1, h2, h3⟩ := h
  have hrow := h1.1
  rw [h2] at hrow
  have := own_at hrow (k : Int) (by omega) (by omega)
  simp only [Int.toNat_natCast] at this
  exact ⟨⟨_, this.1⟩, this.2⟩
theorem Fill.set {w : World} {g m : Nat} (h : Fill w g m) (k : Nat) (x : Int) (hx : 0 ≤ x ∧ x < 256) : Fill (w.setCell ⟨g, k, none⟩ (.int .u8 x)) g m := by
  obtain ⟨bs, h1, h2, h3⟩ := h
  have hrow := h1.1
  rw [h2] at hrow
  have := (own_store hrow (k : Int) x).1
  simp only [Int.toNat_natCast] at this
  refine ⟨bs.set k x, ⟨by rw [List.length_set, h2]; exact this, h1.2⟩, by rw [List.length_set, h2], fun y hy => ?_⟩
  rcases List.mem_or_eq_of_mem_set hy with h | h
  · exact h3 y h
  · rw [h]; exact hx
theorem Fill.new (w : World) (m : Nat) (hm : m ≤ 1000) : Fill (w.alloc (.cells (madeCells #[.int .u8 0] m) 5)) w.heap.size m :=
  ⟨List.replicate m 0, ⟨by have := own_made w 0 5 .u8 m (Nat.zero_le _) (by omega); rwa [List.length_replicate], fun k hk => by simp [Value.ownBlock] at hk; omega⟩, List.length_replicate, fun x hx => by rw [List.eq_of_mem_replicate hx]; decide⟩

/-- What batch makes. -/
def BatchOk (rs : List (List Int)) : Prop := rs.length ≤ 3 ∧ ∀ r ∈ rs, r.length ≤ 30 ∧ IsBytes r

set_option maxRecDepth 100000 in
set_option maxHeartbeats 1600000 in
theorem batch_any (w : World) (x0 x1 x2 : Int) (hx0 : 0 ≤ x0 ∧ x0 < 256) (hx1 : 0 ≤ x1 ∧ x1 < 256) (hx2 : 0 ≤ x2 ∧ x2 < 256) :
    Calls Try.prog 29 #[.agg #[.int .u8 x0, .int .u8 x1, .int .u8 x2]] w fun e w' => ∃ v rs, e = .returned v ∧ Rows w' (fun k => w.heap.size ≤ k) v rs ∧ BatchOk rs ∧ (rs.length : Int) = x0 % 4 ∧ Below w.heap.size w w' := by
  have hbx : Below w.heap.size w (w.alloc (.cells #[.int .u8 x0, .int .u8 x1, .int .u8 x2] 29)) := (Below.refl _ _).alloc (Nat.le_refl _) _
  have hblk := blk_new w (.cells #[.int .u8 x0, .int .u8 x1, .int .u8 x2] 29)
  have hsz : (w.alloc (.cells #[.int .u8 x0, .int .u8 x1, .int .u8 x2] 29)).heap.size = w.heap.size + 1 := by simp
  obtain ⟨a, ha⟩ := Int.eq_ofNat_of_zero_le (show 0 ≤ x0 % 4 from Int.emod_nonneg _ (by decide))
  obtain ⟨m, hm⟩ := Int.eq_ofNat_of_zero_le (show 0 ≤ x1 % 30 from Int.emod_nonneg _ (by decide))
  have ha4 : a < 4 := by have := Int.emod_lt_of_pos x0 (show (0 : Int) < 4 by decide); omega
  have hm30 : m < 30 := by have := Int.emod_lt_of_pos x1 (show (0 : Int) < 30 by decide); omega
  have hmk := print_make (P := Try.prog) 30 5 .u8 1 Try.underlying30 info5 (by decide) m (by omega)
  have HA := hid ha
  go_enter Try.func29, Try.ntmps29
  go_wp2
  generalize w.alloc (.cells #[.int .u8 x0, .int .u8 x1, .int .u8 x2] 29) = wx at *
  go_loopw [3, 4, 5, 6] (fun v3 v4 v5 v6 wr => ∃ (i : Nat) (rs : List (List Int)), v4 = .int .i64 i ∧ i ≤ a ∧ Kd.N KB 30 wr wx.heap.size (fun k => wx.heap.size ≤ k) v3 rs ∧ Hid (BatchOk rs ∧ rs.length = i) ∧ Below wx.heap.size wx wr) (fun _ v4 _ _ _ => a - (intOf v4).toNat)
  case atStart => exact ⟨0, [], rfl, Nat.zero_le _, Kd.N_nil _ _ _ _ _, hid ⟨⟨by simp, by simp⟩, rfl⟩, Below.refl _ _⟩
  case round =>
    obtain ⟨i, rs, rfl, hi, hN, HB, hb⟩ := hrel
    have hblr := blk_below hblk hb
    have q0 : wr.cell? ⟨w.heap.size, 0, none⟩ = some (.int .u8 x0) := blk_cell hblr 0
    have q1 : wr.cell? ⟨w.heap.size, 1, none⟩ = some (.int .u8 x1) := blk_cell hblr 1
    by_cases hlt : i < a
    · obtain ⟨wo, hwo⟩ : ∃ wo, wo = wr := ⟨_, rfl⟩
      subst hwo
      have hf0 := Fill.new wo m (by omega)
      have hbm : Below wo.heap.size wo (wo.alloc (.cells (madeCells #[.int .u8 0] m) 5)) := (Below.refl _ _).alloc (Nat.le_refl _) _
      have hszr := hb.size
      have hvlt := Kd.N_lt hN
      have hxg : w.heap.size < wo.heap.size := by omega
      go_wp2
      generalize wo.alloc (.cells (madeCells #[.int .u8 0] m) 5) = wm at *
      go_loopw [6, 22] (fun v6 v22 wr => ∃ k : Nat, v22 = .int .i64 k ∧ k ≤ m ∧ Fill wr wo.heap.size m ∧ Below wo.heap.size wo wr) (fun _ v22 _ => m - (intOf v22).toNat)
      case atStart => exact ⟨0, rfl, Nat.zero_le _, hf0, hbm⟩
      case round =>
        clear hf0 hbm
        obtain ⟨k, rfl, hk, hfl, hbk⟩ := hrel
        by_cases hlk : k < m
        · obtain ⟨⟨v0, y1⟩, y2⟩ := hfl.at_ k hlk
          have q2 : wr.cell? ⟨w.heap.size, 2, none⟩ = some (.int .u8 x2) := blk_cell (blk_below hblr hbk) 2
          have hst := hfl.set k ((x2 + (i : Int) * k) % 256) ⟨Int.emod_nonneg _ (by decide), Int.emod_lt_of_pos _ (by decide)⟩
          have HST := hid hst
          have hbk2 := hbk.setCell (p := ⟨wo.heap.size, k, none⟩) (Nat.le_refl _) (.int .u8 ((x2 + (i : Int) * k) % 256))
          have hik : (i : Int) * k ≤ 200 := by
            have : i * k ≤ 3 * 30 := Nat.mul_le_mul (by omega) (by omega)
            have : ((i * k : Nat) : Int) ≤ 90 := by omega
            push_cast at this
            omega
          have hik0 : 0 ≤ (i : Int) * k := Int.mul_nonneg (by omega) (by omega)
          clear hst hfl
          go_wp2
          go_roundw
          case rel => exact ⟨k + 1, by go_num, by omega, HST.out, hbk2⟩
          case measure => simp [intOf]; omega
        · obtain rfl : k = m := by omega
          obtain ⟨bs, ho, hbl, hbb⟩ := hfl
          have hb2 : Below wx.heap.size wx wr := hb.trans (hbk.mono hszr)
          have hN2 := Kd.N_below hN hbk
          have hlr := HB.out.2
          have hal : (rs.length + 1) * 24 ≤ 140737488355328 := by omega
          have hokp : ∀ k, k = wo.heap.size → wx.heap.size ≤ k ∧ some k ≠ u3.ownBlock := fun k hk => ⟨by omega, fun e => by have := hvlt k e.symm; omega⟩
          have hsk := hb2.size
          clear hblr hbk
          go_wp2_with (at_builtin; refine Kd.N_append KB (w0 := wx) wx.heap.size rfl (.tmp 36) (.tmp 38) 55 30 (.slice none 0 0) 24 rfl Try.underlying55 info30 rfl (by decide) (by decide) u3 rs bs _ (fun k => wx.heap.size ≤ k) (fun k => k = wo.heap.size) rfl rfl ho.fk hokp (fun k hk => by omega) hN2 hb2 hsk hal ?_)
          intro v9 w9 hN9 hb9 _ _
          rw [← hsz] at hN9 hb9
          have HB9 : Hid (BatchOk (rs ++ [bs]) ∧ (rs ++ [bs]).length = i + 1) := hid ⟨⟨by rw [List.length_append, List.length_singleton]; omega, fun r hr => by
            rcases List.mem_append.1 hr with h | h
            · exact HB.out.1.2 r h
            · rw [List.mem_singleton] at h; subst h; exact ⟨by omega, hbb⟩⟩, by rw [List.length_append, List.length_singleton, hlr]⟩
          clear hN2 hN hokp hvlt ho
          go_wp2
          go_roundw
          case rel => exact ⟨i + 1, rs ++ [bs], by go_num, by omega, hN9, HB9, hb9⟩
          case measure => simp [intOf]; omega
    · obtain rfl : i = a := by omega
      go_wp2
      go_ret
      exact ⟨_, rs, rfl, Kd.N_mono (Kd.N_lower hN (Nat.zero_le _)) (fun k hk => by omega), HB.out.1, by rw [HB.out.2, HA.out], hbx.trans (hb.mono (by omega))⟩
end Go.Proofs.Ytnakolpaabpifaa
