/- A journal beside the law's own row of records. -/
import Derived.Test.YtnakolpaabpifaaJ17
set_option linter.unusedVariables false
set_option linter.unusedSimpArgs false
namespace Go.Proofs.Ytnakolpaabpifaa
open Go.RowKit Go.Proofs.YtnakolpaabpifaaW.PrintWords Go.Proofs.YtnakolpaabpifaaW.PrintLast

/-- A journal, its disk, and a row of records of the law's: apart, all of them made since base. -/
def JL (base : Nat) (w : World) (gj gd : Nat) (v : Value) (all jall : List (List Int)) (dead : Bool) (D : DS) : Prop :=
  ∃ S : Nat → Prop, JD w S gj gd jall dead D ∧ (∀ k, S k → base ≤ k ∧ k < w.heap.size) ∧ Rows w (fun k => base ≤ k ∧ ¬ S k) v all
theorem JL.move {base : Nat} {w w1 : World} {gj gd : Nat} {v : Value} {all jall : List (List Int)} {dead : Bool} {D : DS} (h : JL base w gj gd v all jall dead D) (hb : Below w.heap.size w w1) : JL base w1 gj gd v all jall dead D := by
  obtain ⟨S, h1, h2, h3⟩ := h
  exact ⟨S, h1.move hb.size (fun k _ hl => hb.block k hl), fun k hk => ⟨(h2 k hk).1, by have := (h2 k hk).2; have := hb.size; omega⟩, Kd.N_below h3 hb⟩
/-- Append behind it: what is not the journal's stays. -/
theorem JL.after {base : Nat} {w w1 : World} {S : Nat → Prop} {gj gd : Nat} {v : Value} {all jall : List (List Int)} {dead : Bool} {D : DS} (hS : ∀ k, S k → base ≤ k ∧ k < w.heap.size) (hbase : base ≤ w.heap.size) (hr : Rows w (fun k => base ≤ k ∧ ¬ S k) v all)
    (hj : JD w1 (Ext S w) gj gd jall dead D) (hf : Fr S w w1) : JL base w1 gj gd v all jall dead D := by
  refine ⟨fun k => Ext S w k ∧ k < w1.heap.size, hj.bound, fun k hk => ⟨by rcases hk.1 with h | h; exact (hS k h).1; omega, hk.2⟩, ?_⟩
  have h1 := Kd.N_step (Kd.N_bound hr) (w1 := w1) fun k hk hl => hf.block k hl hk.1.2
  exact Kd.N_mono h1 fun k hk => ⟨hk.1.1, fun h => by
    rcases h.1 with h | h
    · exact hk.1.2 h
    · have := hk.2; omega⟩

theorem rows_after {base : Nat} {w w1 : World} {S : Nat → Prop} {v : Value} {all : List (List Int)} (hr : Rows w (fun k => base ≤ k ∧ ¬ S k) v all) (hf : Fr S w w1) : Rows w1 (fun k => base ≤ k ∧ ¬ (Ext S w k ∧ k < w1.heap.size)) v all := by
  have h1 := Kd.N_step (Kd.N_bound hr) (w1 := w1) fun k hk hl => hf.block k hl hk.1.2
  exact Kd.N_mono h1 fun k hk => ⟨hk.1.1, fun h => by
    rcases h.1 with h | h
    · exact hk.1.2 h
    · have := hk.2; omega⟩
/-- A new disk and its journal. -/
theorem JL.start {base : Nat} {w2 : World} {gj gd : Nat} {D : DS} (h : JD w2 (fun k => base ≤ k ∧ k < w2.heap.size) gj gd [] false D) : JL base w2 gj gd (.slice none 0 0) [] [] false D :=
  ⟨_, h, fun k hk => hk, Kd.N_nil _ _ _ _ _⟩
theorem JL.holds {base : Nat} {w : World} {gj gd : Nat} {v : Value} {all : List (List Int)} {dead : Bool} {D : DS} (h : JL base w gj gd v all all dead D) (hm : ∀ r ∈ all, r.length ≤ 100000) (hn9 : all.length ≤ 1000000000) :
    Calls Try.prog 31 #[.pointer (some ⟨gj, 0, none⟩), v] w fun e w' => e = .returned (.bool true) ∧ Below w.heap.size w w' := by
  obtain ⟨S, h1, h2, h3⟩ := h
  obtain ⟨Sj, hj⟩ := h1.jour
  obtain ⟨A, c, rfl, hc, hC⟩ := Kd.N_reads h3
  exact holds_any w Sj gj _ all dead A _ c hj hC hc hm hn9
theorem JL.dead {base : Nat} {w : World} {gj gd : Nat} {v : Value} {all jall : List (List Int)} {dead : Bool} {D : DS} (h : JL base w gj gd v all jall dead D) : Calls Try.prog 32 #[.pointer (some ⟨gj, 0, none⟩)] w fun e w' => e = .returned (.bool dead) ∧ w = w' := by
  obtain ⟨S, h1, h2, h3⟩ := h
  obtain ⟨Sj, hj⟩ := h1.jour
  exact dead_any w Sj gj gd jall dead hj
end Go.Proofs.Ytnakolpaabpifaa
