/- The walk of the law JournalNone. -/
import Derived.Test.YtnakolpaabpifaaJ16
import Derived.Test.YtnakolpaabpifaaA5
set_option linter.unusedVariables false
set_option linter.unusedSimpArgs false
namespace Go.Proofs.Ytnakolpaabpifaa.journalNone
open Go.RowKit Go.Proofs.YtnakolpaabpifaaW.PrintWords Go.Proofs.YtnakolpaabpifaaW.PrintLast

/-- No journal, or a zero one. -/
def NoneJ (w : World) (p : Option Addr) : Prop := p = none ∨ ∃ (g : Nat) (S : Nat → Prop), p = some ⟨g, 0, none⟩ ∧ JAt w S g (.pointer none) [] false
theorem NoneJ.below {w w1 : World} {p : Option Addr} (h : NoneJ w p) (hb : Below w.heap.size w w1) : NoneJ w1 p := by
  rcases h with h | ⟨g, S, h1, h2⟩
  · exact .inl h
  · exact .inr ⟨g, S, h1, h2.move fun k _ hl => hb.block k hl⟩
theorem NoneJ.dead {w : World} {p : Option Addr} (h : NoneJ w p) : DeadJ w p := by
  rcases h with h | ⟨g, S, h1, h2⟩
  · exact .inl h
  · exact .inr ⟨g, S, [], false, none, h1, h2, .inl rfl⟩
theorem NoneJ.record {w : World} {p : Option Addr} (h : NoneJ w p) (k : Int) : Calls Try.prog 35 #[.pointer p, .int .i64 k] w fun e w' => e = .returned (.tuple #[.slice none 0 0, .int .i64 45]) ∧ w = w' := by
  rcases h with rfl | ⟨g, S, rfl, h2⟩
  · exact record_nil w k
  · exact record_none w S g _ [] false k 0 h2 (hid rfl) (by omega)
theorem NoneJ.len {w : World} {p : Option Addr} (h : NoneJ w p) : Calls Try.prog 34 #[.pointer p] w fun e w' => e = .returned (.int .i64 0) ∧ w = w' := by
  rcases h with rfl | ⟨g, S, rfl, h2⟩
  · exact len_nil w
  · exact len_any w S g _ [] false 0 h2 (hid rfl)
theorem C_one {w : World} {A : Option Addr} {n c : Nat} {xs : List Int} (h : ReadsInt w .u8 A n xs) (hc : n ≤ c) : Kd.C KB (w.alloc (.cells #[.slice A n c] 30)) (some ⟨w.heap.size, 0, none⟩) 1 [xs] :=
  C_lit (vs := [.slice A n c]) rfl (by simp) fun j hj => by
    obtain rfl : j = 0 := by simpa using hj
    exact K_of_readsn h hc

set_option maxRecDepth 100000 in
set_option maxHeartbeats 1000000 in
theorem walk (a0 : Option Addr) (len0 cap0 : Nat) (z0 : List Int) (a1 : Int) (w : World) (w0 : IsRow .u8 w a0 len0 cap0 z0) (w1 : (Lit.int .i64 a1).wf = true) :
    Calls Try.prog 10 #[.slice a0 len0 cap0, .int .i64 a1] w fun e w' => e = .returned (.bool true) ∧ Below w.heap.size w w' := by
  obtain ⟨hr, hc, hby, hbl⟩ := w0.reads
  generalize z0.take len0 = bs at *
  clear w0 w1
  have Hl := hid hr.1
  have hmx := hr.2.1
  by_cases hg : 40 < (len0 : Int)
  · go_enter Try.func10, Try.ntmps10
    go_wp2_with fail
    refine (awake_journal _).mono ?_
    rintro e w' ⟨rfl, hb⟩
    go_wp2
    go_ret
    exact ⟨rfl, hb⟩
  · have hvr : VR [bs] := ⟨by simp, by simp, fun r hr => by rw [List.mem_singleton] at hr; subst hr; rw [Hl.out]; omega, fun r hr => by rw [List.mem_singleton] at hr; subst hr; exact hby⟩
    obtain ⟨m, hm⟩ : ∃ m : Nat, m = 4097 := ⟨_, rfl⟩
    have hmk0 := print_make (P := Try.prog) 30 5 .u8 1 Try.underlying30 info5 (by decide) m (by omega)
    have hmk : ∀ W : World, (Instr.makeSlice 30 (.int .i64 4097) (.int .i64 4097)).run Try.prog W = .ok (.slice (some ⟨W.heap.size, 0, none⟩) m m) (W.alloc (.cells (madeCells #[.int .u8 0] m) 5)) := by
      have e : ((m : Nat) : Int) = 4097 := by omega
      rwa [e] at hmk0
    have hlg : LongR [List.replicate m (0 : Int)] := .inr ⟨List.replicate m 0, List.mem_singleton.2 rfl, by rw [List.length_replicate]; omega⟩
    have hmz : ∀ r ∈ [List.replicate m (0 : Int)], r.length ≤ 1000000000 := fun r hr => by rw [List.mem_singleton] at hr; subst hr; rw [List.length_replicate]; omega
    have hm9 : m ≤ 5000 := by omega
    clear hmk0 hm
    have hz := blk_new w (.cells #[.pointer none, .slice none 0 0, .bool false] 64)
    have hbA : Below w.heap.size w ((w.alloc (.cells #[.pointer none, .slice none 0 0, .bool false] 64)).alloc (.cells #[.pointer none, .pointer (some ⟨w.heap.size, 0, none⟩)] 52)) := ((Below.refl _ _).alloc (Nat.le_refl _) _).alloc (by simp) _
    have hsA : ((w.alloc (.cells #[.pointer none, .slice none 0 0, .bool false] 64)).alloc (.cells #[.pointer none, .pointer (some ⟨w.heap.size, 0, none⟩)] 52)).heap.size = w.heap.size + 2 := by simp
    have hjA : JAt ((w.alloc (.cells #[.pointer none, .slice none 0 0, .bool false] 64)).alloc (.cells #[.pointer none, .pointer (some ⟨w.heap.size, 0, none⟩)] 52)) (fun k => k = w.heap.size) w.heap.size (.pointer none) [] false :=
      ⟨_, (Below.heap_alloc _ _ _ (by simp)).trans hz, Kd.N_nil _ _ _ _ _, rfl⟩
    have hblk : ((w.alloc (.cells #[.pointer none, .slice none 0 0, .bool false] 64)).alloc (.cells #[.pointer none, .pointer (some ⟨w.heap.size, 0, none⟩)] 52)).heap[w.heap.size + 1]? = some (.cells #[.pointer none, .pointer (some ⟨w.heap.size, 0, none⟩)] 52 (0, 0)) := by
      have := blk_new (w.alloc (.cells #[.pointer none, .slice none 0 0, .bool false] 64)) (.cells #[.pointer none, .pointer (some ⟨w.heap.size, 0, none⟩)] 52)
      simpa using this
    clear hz
    go_enter Try.func10, Try.ntmps10
    go_wp2_with fail
    refine (open_nil _).mono ?_
    rintro e w1 ⟨rfl, rfl⟩
    go_wp2
    generalize (w.alloc (.cells #[.pointer none, .slice none 0 0, .bool false] 64)).alloc (.cells #[.pointer none, .pointer (some ⟨w.heap.size, 0, none⟩)] 52) = wA at *
    go_loopw [9, 10, 11, 27] (fun _ _ _ i wr => ∃ k : Nat, i = .int .i64 k ∧ k ≤ 2 ∧ Below wA.heap.size wA wr) (fun _ _ _ i _ => 2 - (intOf i).toNat)
    case atStart => exact ⟨0, rfl, Nat.zero_le _, Below.refl _ _⟩
    case round =>
      obtain ⟨k, rfl, hk, hb⟩ := hrel
      by_cases hlt : k < 2
      · obtain ⟨p, hp1, hp2⟩ : ∃ p, wr.cell? ⟨w.heap.size + 1, k, none⟩ = some (.pointer p) ∧ NoneJ wr p := by
          have h2 := blk_below hblk hb
          have : k = 0 ∨ k = 1 := by omega
          rcases this with rfl | rfl
          · exact ⟨none, blk_cell h2 0, .inl rfl⟩
          · exact ⟨_, blk_cell h2 1, .inr ⟨w.heap.size, _, rfl, hjA.move fun k _ hl => hb.block k hl⟩⟩
        have HP := hid hp2
        have hbz : Below w.heap.size w wr := hbA.trans (hb.mono (by omega))
        have hrw := hr.below hbz
        clear hp2
        go_wp2_with fail
        refine (HP.out.record a1).mono ?_
        rintro e w2 ⟨rfl, rfl⟩
        clear hp1
        have hC := C_one hrw hc
        go_wp2_with fail
        refine (append_dead _ p _ 1 1 [bs] hC (Nat.le_refl _) hvr (HP.out.below ((Below.refl _ _).alloc (Nat.le_refl _) _)).dead).mono ?_
        rintro e w3 ⟨rfl, hb3⟩
        have hb4 : Below wr.heap.size wr w3 := ((Below.refl _ _).alloc (Nat.le_refl _) _).trans (hb3.mono (by simp))
        clear hC hb3
        go_wp2_with fail
        refine (append_empty _ p _ _).mono ?_
        rintro e w4 ⟨rfl, rfl⟩
        have hrm := reads_made w3 m (by omega)
        have hC2 := C_one hrm (Nat.le_refl _)
        rw [show (w3.alloc (.cells (madeCells #[.int .u8 0] m) 5)).heap.size = w3.heap.size + 1 by simp] at hC2
        have hb5 : Below wr.heap.size wr ((w3.alloc (.cells (madeCells #[.int .u8 0] m) 5)).alloc (.cells #[.slice (some ⟨w3.heap.size, 0, none⟩) m m] 30)) := (hb4.alloc hb4.size _).alloc (by simp; have := hb4.size; omega) _
        go_wp2_with fail
        refine (append_long _ p _ 1 1 [List.replicate m 0] hC2 (Nat.le_refl _) (by decide) (by decide) hmz hlg).mono ?_
        rintro e w5 ⟨rfl, hb6⟩
        have hb7 : Below wr.heap.size wr w5 := hb5.trans (hb6.mono hb5.size)
        have hp5 := HP.out.below hb7
        clear hC2 hb6 hb5 hb4 hrm
        go_wp2_with fail
        refine hp5.len.mono ?_
        rintro e w6 ⟨rfl, rfl⟩
        go_wp2_with fail
        refine (dead_is _ p hp5.dead).mono ?_
        rintro e w7 ⟨rfl, rfl⟩
        have hb8 : Below wA.heap.size wA w5 := hb.trans (hb7.mono hb.size)
        clear hb7 hp5
        go_wp2
        go_roundw
        case rel => exact ⟨k + 1, by go_num, by omega, hb8⟩
        case measure => simp [intOf]; omega
      · have hbz : Below w.heap.size w wr := hbA.trans (hb.mono (by omega))
        go_wp2_with fail
        refine (awake_journal _).mono ?_
        rintro e w2 ⟨rfl, hb2⟩
        have hb3 := hbz.trans (hb2.mono hbz.size)
        go_wp2
        go_ret
        exact ⟨rfl, hb3⟩
end Go.Proofs.Ytnakolpaabpifaa.journalNone
