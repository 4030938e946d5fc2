/- The walk of the law DiskKept. -/
import Derived.Test.YtnakolpaabpifaaA5
import Derived.Deep.RegionHeld3
set_option linter.unusedVariables false
set_option linter.unusedSimpArgs false
namespace Go.Proofs.Ytnakolpaabpifaa.diskKept
open Go.RowKit
open Go.Proofs.YtnakolpaabpifaaW.PrintWords

/-- The power is not cut. -/
def Live (D : DS) : Prop := D.cut = false ∧ D.off = false ∧ D.room = 500
theorem Live.begin {D : DS} (h : Live D) : D.begin = (true, { D with ops := wrap64 (D.ops + 1) }) := by
  unfold DS.begin
  rw [h.1, h.2.1]
  rfl
theorem Live.sync {D : DS} (h : Live D) : D.sync = (0, { D with ops := wrap64 (D.ops + 1), dur := D.b.length }) := by
  unfold DS.sync
  rw [h.begin]
  rfl
theorem Live.append {D : DS} (h : Live D) (bs : List Int) : Live (D.append bs).2 ∧ ∃ t, (D.append bs).2.b = D.b ++ t ∧ (D.append bs).2.dur = D.dur := by
  unfold DS.append
  rw [h.begin, if_neg (by simp)]
  split
  · exact ⟨h, [], by simp, rfl⟩
  · exact ⟨h, bs, rfl, rfl⟩

theorem keeps_range {D : DS} (h : D.ok) (keep : Int) : 0 ≤ D.keeps keep ∧ D.keeps keep ≤ D.b.length - D.dur := by
  have h1 := h.d1
  have hm : 0 < (D.b.length : Int) - D.dur + 1 := by omega
  have h2 := Int.tmod_lt_of_pos keep hm
  have h3 := Int.lt_tmod_of_pos keep hm
  unfold DS.keeps
  simp only
  split <;> omega

theorem survives {D : DS} {L : List Int} {keep flip : Int} (h : D.ok) (hp : ∃ t, D.b = L ++ t ∧ D.dur = L.length) : ∃ sv, Hid ((D.crash keep flip).b = L ++ sv ∧ L.length + sv.length ≤ D.b.length) := by
  obtain ⟨t, h1, h2⟩ := hp
  obtain ⟨h3, h4⟩ := keeps_range h keep
  have e : D.b.take (D.dur + D.keeps keep).toNat = L ++ t.take (D.keeps keep).toNat := by
    rw [h1, h2, show ((L.length : Int) + D.keeps keep).toNat = L.length + (D.keeps keep).toNat from by omega, List.take_length_add_append]
  show ∃ sv, Hid (D.survive keep flip = L ++ sv ∧ _)
  unfold DS.survive
  simp only [e]
  split
  · rename_i hc
    refine ⟨(t.take (D.keeps keep).toNat).set ((L ++ t.take (D.keeps keep).toNat).length - 1 - L.length) (Go.bits .xor .u8 (rd (L ++ t.take (D.keeps keep).toNat) ((L ++ t.take (D.keeps keep).toNat).length - 1)) 85), hid ⟨?_, ?_⟩⟩
    · rw [List.set_append_right]
      rw [List.length_append, List.length_take]
      rw [h1, List.length_append] at h4
      omega
    · rw [List.length_set, List.length_take, h1, List.length_append]; omega
  · exact ⟨t.take (D.keeps keep).toNat, hid ⟨rfl, by rw [List.length_take, h1, List.length_append]; omega⟩⟩

theorem str_prefix (L t : List Int) : ((strOfNums (L ++ t)).extract 0 (strOfNums L).size).toList = (strOfNums L).toList := by
  rw [ByteArray.toList_eq, ByteArray.toList_eq, ByteArray.data_extract, Array.toList_extract, strOfNums_data, strOfNums_data, strOfNums_size]
  simp

theorem round_cell {B b : Nat} {wr W w2 : World} {S : Nat → Prop} {off : Nat} {v : Value} (hf : Fr S W w2) (hW : Below wr.heap.size wr W) (hS : ∀ k, S k → B ≤ k) (hx : wr.cell? ⟨b, off, none⟩ = some v) (hb : b < B) : w2.cell? ⟨b, off, none⟩ = some v := by
  have hlt := World.block_lt_of_cell? wr _ hx
  refine hf.cell (a := ⟨b, off, none⟩) ?_ (fun h => by have := hS _ h; simp at this; omega)
  rw [← hx]
  exact hW.cell hlt

set_option maxRecDepth 100000 in
set_option maxHeartbeats 1000000 in
theorem walk (a0 : Option Addr) (n0 c0 : Nat) (F : Nat → Nat → Int) (a1 : Option Addr) (n1 c1 : Nat) (G : Nat → Nat → Int) (keep flip : Int) (w : World) (h0 : IsArr .u8 3 w a0 n0 c0 F) (h1 : IsArr .u8 2 w a1 n1 c1 G) (_ : (Lit.int .i64 keep).wf = true) (_ : (Lit.int .i64 flip).wf = true) :
    Calls Try.prog 3 #[.slice a0 n0 c0, .slice a1 n1 c1, .int .i64 keep, .int .i64 flip] w fun e w' => e = .returned (.bool true) ∧ Below w.heap.size w w' := by
  have H0 := hid h0
  have H1 := hid h1
  have hm0 : n0 ≤ 9223372036854775807 := by have := h0.1; have := h0.2.1; unfold maxLen at this; omega
  have hm1 : n1 ≤ 9223372036854775807 := by have := h1.1; have := h1.2.1; unfold maxLen at this; omega
  clear h0 h1
  go_enter Try.func3, Try.ntmps3
  go_wp2_with fail
  refine (new_any _ 500 (by decide) (by decide)).mono ?_
  rintro e w1 ⟨rfl, hd1, hb1⟩
  have ho1 := Own1.new (Below.refl _ _) (Nat.le_refl _) hd1 hb1
  clear hd1 hb1
  go_wp2_with fail
  go_loopw [11] (fun i wr => ∃ (k : Nat) (D : DS), i = .int .i64 k ∧ k ≤ n0 ∧ Own1 w.heap.size w wr w.heap.size D ∧ Live D) (fun i _ => n0 - (intOf i).toNat)
  case atStart => exact ⟨0, _, rfl, Nat.zero_le _, ho1, rfl, rfl, rfl⟩
  case round =>
    clear ho1
    obtain ⟨k, D, rfl, hk, ho, hlive⟩ := hrel
    by_cases hlt : k < n0 ∧ k < 30
    · obtain ⟨hlt, hlt2⟩ := hlt
      obtain ⟨b, off, rfl, hb, hcell⟩ := H0.out.2.2 (by omega)
      obtain ⟨q0, w0⟩ := hcell k hlt 0 (by decide)
      obtain ⟨q1, w1⟩ := hcell k hlt 1 (by decide)
      have x0 : wr.cell? ⟨b, off + k * 3, none⟩ = some (.int .u8 (F k 0)) := (ho.below.cell hb).trans q0
      have x1 : wr.cell? ⟨b, off + k * 3 + 1, none⟩ = some (.int .u8 (F k 1)) := (ho.below.cell hb).trans q1
      clear q0 q1
      go_wp2_with fail
      have hby : ∀ x ∈ [F k 0, F k 1], 0 ≤ x ∧ x < 256 := by
        intro x hx
        rcases List.mem_cons.1 hx with rfl | hx
        · exact wf_u8 w0
        · rw [List.mem_singleton.1 hx]; exact wf_u8 w1
      have hbl : b < wr.heap.size := by have := ho.le; omega
      have hd0 : DiskAt (wr.drew.alloc (.cells (nums .u8 [F k 0, F k 1]).toArray 5)) (fun k => w.heap.size ≤ k ∧ k < wr.heap.size) w.heap.size D := (ho.at_.alloc (.cells (nums .u8 [F k 0, F k 1]).toArray 5)).move fun _ _ _ => rfl
      have hrl := reads_lit wr.drew [F k 0, F k 1] (0, 0) (by simp)
      have hna : ∀ ad : Addr, some (⟨wr.heap.size, 0, none⟩ : Addr) = some ad → ¬ (w.heap.size ≤ ad.block ∧ ad.block < wr.heap.size) := fun ad h => by cases h; simp
      have Hna := hid hna
      clear hna
      have Hx0 := hid x0
      have Hx1 := hid x1
      have HW : Below wr.heap.size wr (wr.drew.alloc (.cells (nums .u8 [F k 0, F k 1]).toArray 5)) := (Below.refl _ _).drew.alloc (Nat.le_refl _) _
      have hS : ∀ j, (w.heap.size ≤ j ∧ j < wr.heap.size) → w.heap.size ≤ j := fun j h => h.1
      have HS := hid hS
      clear hS
      go_region_held3 (fun w' => w'.cell? ⟨b, off + k * 3, none⟩ = some (.int .u8 (F k 0)) ∧ w'.cell? ⟨b, off + k * 3 + 1, none⟩ = some (.int .u8 (F k 1)))
        (first | go_keep | exact ⟨y0, y1⟩) ((go_at_call 15; refine (append_any _ _ _ D hd0 _ 2 2 [F k 0, F k 1] hrl (Nat.le_refl _) Hna.out hby).mono ?_; rintro e w2 ⟨rfl, hd2, hf2⟩; have y0 := round_cell hf2 HW HS.out Hx0.out hb; have y1 := round_cell hf2 HW HS.out Hx1.out hb))
      have ho2 := Own1.next (w0 := w) (B := w.heap.size) (ho.below.trans (HW.mono ho.le)) (by have := ho.le; have := HW.size; omega) HS.out hd2 hf2
      have hl2 := (hlive.append [F k 0, F k 1]).1
      clear hd2 hf2 HW HS hd0 hrl
      go_wp2
      go_roundw
      case rel => exact ⟨k + 1, _, by go_num, by omega, ho2, hl2⟩
      case measure => simp [intOf]; omega
    · have hx : ¬ k < n0 ∨ (k < n0 ∧ ¬ k < 30) := by omega
      rcases hx with hx1 | ⟨hx1, hx2⟩
      all_goals
        go_wp2_with fail
        refine (sync_is _ _ _ _ { D with ops := wrap64 (D.ops + 1), dur := D.b.length } 0 ho.at_ (hid hlive.sync)).mono ?_
        rintro e w2 ⟨rfl, hd2, hf2⟩
        have ho2 := Own1.same ho.below ho.le (fun j h => h.1) hd2 hf2
        have hl2 : Live { D with ops := wrap64 (D.ops + 1), dur := D.b.length } := hlive
        clear hd2 hf2
        obtain ⟨D2, hD2⟩ : ∃ D2, D2 = { D with ops := wrap64 (D.ops + 1), dur := (D.b.length : Int) } := ⟨_, rfl⟩
        have hp : D2.b = D.b ++ [] ∧ D2.dur = D.b.length := by rw [hD2]; simp
        rw [← hD2] at ho2 hl2
        clear hD2
        go_wp2_with fail
        refine (read_is _ _ _ _ D.b D.b.length ho2.at_ (hid ⟨by rw [hp.1]; simp, rfl⟩)).mono ?_
        rintro e w3 ⟨A3, c3, rfl, hd3, hb3⟩
        have hcv := own_string (P := Try.prog) Try.underlying30 Try.underlying5 Try.underlying9 hd3.1
        have ho3 := ho2.keep hb3
        have Hp := hid hp
        clear hd3 hb3 ho2 ho hlive hp
        generalize D.b = L at *
        go_wp2_with fail
        go_loopw [13] (fun i wr => ∃ (k : Nat) (D : DS), i = .int .i64 k ∧ k ≤ n1 ∧ Own1 w.heap.size w wr w.heap.size D ∧ Live D ∧ Hid (∃ t, D.b = L ++ t ∧ D.dur = L.length)) (fun i _ => n1 - (intOf i).toNat)
        case atStart => exact ⟨0, _, rfl, Nat.zero_le _, ho3, hl2, hid ⟨[], Hp.out.1, Hp.out.2⟩⟩
        case round =>
          clear ho3 hl2 Hp hcv
          obtain ⟨k2, D3, rfl, hk2, ho, hlive, Hp⟩ := hrel
          by_cases hlt : k2 < n1 ∧ k2 < 30
          · obtain ⟨hlt, hlt2⟩ := hlt
            obtain ⟨b, off, rfl, hb, hcell⟩ := H1.out.2.2 (by omega)
            obtain ⟨q0, w0⟩ := hcell k2 hlt 0 (by decide)
            have x0 : wr.cell? ⟨b, off + k2 * 2, none⟩ = some (.int .u8 (G k2 0)) := (ho.below.cell hb).trans q0
            clear q0 hcell
            have hg0 := wf_u8 w0
            clear w0
            generalize G k2 0 = z at *
            obtain ⟨m, hm⟩ := Int.eq_ofNat_of_zero_le (show 0 ≤ z % 5 from Int.emod_nonneg _ (by decide))
            have hm5 : m < 5 := by have := Int.emod_lt_of_pos z (show (0 : Int) < 5 by decide); omega
            have hmk := print_make (P := Try.prog) 30 5 .u8 1 Try.underlying30 info5 (by decide) m (by omega)
            go_wp2_with fail
            refine (append_any _ _ _ D3 (ho.at_.alloc _) _ m m (List.replicate m 0) (reads_made wr m (by omega)) (Nat.le_refl _) (fun ad h => by cases h; simp) (fun x hx => by rw [(List.mem_replicate.1 hx).2]; decide)).mono ?_
            rintro e w5 ⟨rfl, hd5, hf5⟩
            have ho5 := Own1.next (ho.alloc _).below (ho.alloc _).le (fun j h => h.1) hd5 hf5
            have hl5 := hlive.append (List.replicate m 0)
            have hp5 : Hid (∃ t, (D3.append (List.replicate m 0)).2.b = L ++ t ∧ (D3.append (List.replicate m 0)).2.dur = L.length) := by
              obtain ⟨t, h1, h2⟩ := Hp.out
              obtain ⟨u, h3, h4⟩ := hl5.2
              exact ⟨t ++ u, by rw [h3, h1, List.append_assoc], by rw [h4, h2]⟩
            have hl6 := hl5.1
            clear hd5 hf5 ho hl5 hm
            go_wp2
            go_roundw
            case rel => exact ⟨k2 + 1, _, by go_num, by omega, ho5, hl6, hp5⟩
            case measure => simp [intOf]; omega
          · have hx : ¬ k2 < n1 ∨ (k2 < n1 ∧ ¬ k2 < 30) := by omega
            rcases hx with hx3 | ⟨hx3, hx4⟩
            all_goals
              go_wp2_with fail
              refine (crash_any _ _ _ D3 keep flip ho.at_).mono ?_
              rintro e w6 ⟨g', rfl, hd6, hb6⟩
              have hc6 := ho.crash hd6 hb6
              have hdk := ho.at_.move (fun j _ hj => hb6.block j hj)
              obtain ⟨sv, hsv⟩ : ∃ sv, Hid ((D3.crash keep flip).b = L ++ sv ∧ L.length + sv.length ≤ D3.b.length) := survives hdk.ok Hp.out
              obtain ⟨M, N, hM⟩ : ∃ M N, Hid (M = L ++ sv ∧ M.length = N) := ⟨_, _, hid ⟨rfl, rfl⟩⟩
              have hMb : Hid ((D3.crash keep flip).b = M ∧ M.length = N) := hid ⟨by rw [hM.out.1]; exact hsv.out.1, hM.out.2⟩
              have hs1 : (strOfNums L).size ≤ (strOfNums M).size := by rw [strOfNums_size, strOfNums_size, hM.out.1, List.length_append]; omega
              have hs2 : (strOfNums M).size ≤ D3.b.length := by rw [strOfNums_size, hM.out.1, List.length_append]; exact hsv.out.2
              have hs3 : Hid (((strOfNums M).extract 0 (strOfNums L).size).toList = (strOfNums L).toList) := hid (by rw [hM.out.1]; exact str_prefix L sv)
              have hs4 : (strOfNums M).size ≤ 262144 := by have h := hdk.ok; have := h.l; have := h.r1; omega
              clear hd6 hb6 hsv hM
              go_wp2_with fail
              refine (read_is _ _ _ _ M N hc6.at_ hMb).mono ?_
              rintro e w7 ⟨A7, c7, rfl, hd7, hb7⟩
              have hcv := own_string (P := Try.prog) Try.underlying30 Try.underlying5 Try.underlying9 hd7.1
              have hc7 := hc6.keep hb7
              have hdk7 := hdk.move (fun j _ hj => hb7.block j hj)
              clear hd7 hb7 hc6 hdk
              go_wp2_with fail
              refine (awake_disk _).mono ?_
              rintro e w8 ⟨rfl, hb8⟩
              have hc8 := hc7.keep hb8
              have hdk8 := hdk7.move (fun j _ hj => hb8.block j hj)
              clear hc7 hb8 hdk7 hcv
              have hs3' := hs3.out
              go_wp2_with fail
              refine (size_any _ _ _ D3 hdk8).mono ?_
              rintro e w9 ⟨rfl, rfl⟩
              go_wp2
              go_ret
              exact ⟨rfl, hc8.below⟩
end Go.Proofs.Ytnakolpaabpifaa.diskKept
