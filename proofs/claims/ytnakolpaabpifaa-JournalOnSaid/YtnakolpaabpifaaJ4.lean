/- Contracts of the journal's small functions, and of slices.Grow of nothing. -/
import Derived.Test.YtnakolpaabpifaaJ3
import Derived.Test.YtnakolpaabpifaaA5
set_option linter.unusedVariables false
set_option linter.unusedSimpArgs false
namespace Go.Proofs.Ytnakolpaabpifaa
open Go.RowKit Go.Proofs.YtnakolpaabpifaaW.PrintWords

abbrev KB : Kd (List Int) := Kd.slice 5 (Kd.int .u8)

theorem ownB_of_R {w : World} {B : Nat} {ok : Nat → Prop} {v : Value} {xs : List Int} (h : Kd.R (Kd.int .u8) 5 w B ok v xs) : OwnB w (fun k => B ≤ k) v xs :=
  ⟨own_weaken (Kd.own_of_R h) (Nat.zero_le _), fun k hk => own_base (Kd.own_of_R h) k hk⟩
theorem OwnB.R {w : World} {S : Nat → Prop} {v : Value} {bs : List Int} (h : OwnB w S v bs) : Kd.R (Kd.int .u8) 5 w 0 S v bs := Kd.R_of_own h.1 h.2
theorem C_of_readsInt {w : World} {A : Option Addr} {n : Nat} {xs : List Int} (h : ReadsInt w .u8 A n xs) : Kd.C (Kd.int .u8) w A n xs := Kd.C_of_reads (d := (0 : Int)) (h1 := fun _ => rfl) h
theorem readsInt_of_C {w : World} {A : Option Addr} {n : Nat} {xs : List Int} (h : Kd.C (Kd.int .u8) w A n xs) : ReadsInt w .u8 A n xs := Kd.reads_of_C (enc := Value.int .u8) (d := (0 : Int)) (h1 := fun _ => rfl) h
/-- What a value of bytes of its own leads to. -/
theorem OwnB.fk {w : World} {S : Nat → Prop} {v : Value} {bs : List Int} (h : OwnB w S v bs) : Kd.FK KB w S bs [v] := fun W' hW => by
  obtain ⟨A, c, rfl, hc, hr⟩ := (h.move hW).reads
  exact ⟨A, c, rfl, hc, C_of_readsInt hr⟩
theorem len_of {w : World} {A : Option Addr} {n : Nat} {xs : List Int} (h : ReadsInt w .u8 A n xs) : n = xs.length := h.1.symm

theorem get_any (w : World) (A : Option Addr) (n c : Nat) (bs : List Int) (hr : ReadsInt w .u8 A n bs) (hc : n ≤ c) (hb : IsBytes bs) (h4 : n ≤ 4) :
    Calls Try.prog 48 #[.slice A n c] w fun e w' => e = .returned (.int .u32 (getP bs)) ∧ Below w.heap.size w w' := by
  obtain rfl := len_of hr
  refine (Pfirst.journal_get.calls 5 A c bs _ w (C_of_readsInt hr) hc (get_f4 bs hb h4 0)).mono ?_
  rintro e w' ⟨rfl, hd⟩
  exact ⟨rfl, hd.below⟩
theorem csum_any (w : World) (A : Option Addr) (n c : Nat) (bs : List Int) (hr : ReadsInt w .u8 A n bs) (hc : n ≤ c) (hb : IsBytes bs) (hn : (n : Int) ≤ 9223372036854775806) :
    Calls Try.prog 55 #[.slice A n c] w fun e w' => e = .returned (.int .u32 (sumP bs)) ∧ Below w.heap.size w w' := by
  obtain rfl := len_of hr
  refine (Pfirst.codec_Sum.calls _ A c bs _ w (C_of_readsInt hr) hc (sum_f bs hb hn)).mono ?_
  rintro e w' ⟨rfl, hd⟩
  exact ⟨rfl, hd.below⟩
theorem reach_any (w : World) (A : Option Addr) (n c : Nat) (bs : List Int) (hr : ReadsInt w .u8 A n bs) (hc : n ≤ c) (hb : IsBytes bs) (h4 : n < 4) :
    Calls Try.prog 56 #[.slice A n c] w fun e w' => e = .returned (.bool (reachP bs)) ∧ Below w.heap.size w w' := by
  obtain rfl := len_of hr
  refine (Preachable.journal_reachable.calls 10 A c bs _ w (C_of_readsInt hr) hc (reach_f bs hb h4)).mono ?_
  rintro e w' ⟨rfl, hd⟩
  exact ⟨rfl, hd.below⟩
theorem put_any (w : World) (x : Int) (m : Nat) (hm : m ≤ 100) :
    Calls Try.prog 53 #[.int .u32 x, .int .i64 (m : Int)] w fun e w' => ∃ A c, e = .returned (.slice A m c) ∧ OwnB w' (fun k => w.heap.size ≤ k) (.slice A m c) (putP x m) ∧ Below w.heap.size w w' := by
  refine (Pput.journal_put.calls (m + 1) x m _ w (put_f x m hm)).mono ?_
  rintro e w' ⟨v, rfl, hR, hb⟩
  have ho := ownB_of_R hR
  obtain ⟨A, c, rfl, _, _⟩ := ho.reads
  rw [putP_length] at ho ⊢
  exact ⟨A, c, rfl, ho, hb⟩
theorem lengths_any (w : World) (A : Option Addr) (n c : Nat) (bs : List Int) (hr : ReadsInt w .u8 A n bs) (hc : n ≤ c) (hb : IsBytes bs) :
    Calls Try.prog 49 #[.slice A n c] w fun e w' => ∃ A1 n1 c1, e = .returned (.tuple #[.slice A1 n1 c1, .int .i64 (lengthsP bs).2.1, .bool (lengthsP bs).2.2.1, .bool (lengthsP bs).2.2.2]) ∧ n1 ≤ c1 ∧ ReadsInt w' .i64 A1 n1 (lengthsP bs).1 ∧ Below w.heap.size w w' := by
  obtain rfl := len_of hr
  refine (Pfirst.journal_lengths.calls 40 A c bs _ _ _ _ w (C_of_readsInt hr) hc (lengths_f bs hb)).mono ?_
  rintro e w' ⟨v, rfl, hR, hb⟩
  obtain ⟨A1, c1, rfl, h1, h2⟩ := Kd.R_reads hR
  exact ⟨A1, _, c1, rfl, h1, Kd.reads_of_C (enc := Value.int .i64) (d := (0 : Int)) (h1 := fun _ => rfl) h2, hb⟩

set_option maxHeartbeats 400000 in
theorem grow_nil (w : World) (n : Int) (h0 : 0 ≤ n) (hn : n ≤ 1000000000000) :
    Calls Try.prog 57 #[.slice none 0 0, .int .i64 n] w fun e w' => ∃ A c, e = .returned (.slice A 0 c) ∧ OwnB w' (fun k => w.heap.size ≤ k) (.slice A 0 c) [] ∧ Below w.heap.size w w' := by
  by_cases hz : n = 0
  · subst hz
    go_enter Try.func57, Try.ntmps57
    go_wp2
    go_ret
    exact ⟨none, 0, rfl, OwnB.nil _ _, Below.refl _ _⟩
  · have hp : 0 < n := by omega
    go_enter Try.func57, Try.ntmps57
    go_wp2_with (at_builtin; refine Kd.R_append_zeros (Kd.int .u8) (w0 := w) w.heap.size rfl (.tmp 20) (.tmp 21) 30 3 5 (.int .u8 0) 1 rfl Try.underlying30 Try.underlying3 info5 rfl (by decide) (by decide) (.slice none 0 0) [] 0 n (fun _ => True) rfl rfl rfl (fun _ _ => trivial) (Kd.R_nil _ _ _ _ _) h0 (Below.refl _ _) (Nat.le_refl _) (by simp; omega) ?_)
    intro v1 w1 hR hb hg hat
    have ho := ownB_of_R hR
    obtain ⟨A1, c1, rfl, hc1, hr1⟩ := ho.reads
    obtain ⟨ad, e1, _⟩ := hr1.2.2 (by simp; omega)
    subst e1
    have ht := ho.take 0 (Nat.zero_le _)
    rw [List.take_zero] at ht
    clear hR hg hat ho
    go_wp2
    go_ret
    exact ⟨some ad, c1, rfl, ht, hb⟩
end Go.Proofs.Ytnakolpaabpifaa
