/- Slices of small arrays that came in; how they are read. -/
import Derived.Test.YtnakolpaabpifaaA4
import Derived.ProofKit
import Derived.OpenShut
import Derived.Deep.Slices
set_option linter.unusedVariables false
set_option linter.unusedSimpArgs false
namespace Go.Proofs.Ytnakolpaabpifaa
open Go.RowKit Go.Proofs.YtnakolpaabpifaaW.PrintWords

/-- A slice of arrays of n whole numbers that came in. -/
def IsArr (k : IntKind) (m : Nat) (w : World) (a : Option Addr) (len cap : Nat) (F : Nat → Nat → Int) : Prop :=
  len ≤ cap ∧ cap ≤ maxLen ∧ (0 < len → ∃ b off, a = some ⟨b, off, none⟩ ∧ b < w.heap.size ∧ ∀ i, i < len → ∀ j, j < m → w.cell? ⟨b, off + (i * m + j), none⟩ = some (.int k (F i j)) ∧ (Lit.int k (F i j)).wf = true)

theorem isArr_open {H : Type} {enc : TypeId × Value → H} {P : Program} {w : World} {spare : Nat → Bool} {held : Bool} {fuel : Nat} {t e b : TypeId} {m : Nat} {k : IntKind} {v : Value} {x : DataW H × List MemPlace}
    (ht : P.underlying t = some (.slice e)) (he : P.underlying e = some (.array m b)) (hb : P.underlying b = some (.int k)) (ce : P.cellsOf e = m) (cb : P.cellsOf b = 1) (hm : 0 < m)
    (h : DataW.trod enc P w 0 spare held fuel t [v] = some x) : ∃ a len cap F, v = .slice a len cap ∧ IsArr k m w a len cap F := by
  rcases Deep.open_slice ht h with ⟨h1, _⟩ | ⟨a, len, cap, mm, n, D, Pl, h1, _, hl, hc, hmm, _, hel⟩
  · injection h1 with h1 _
    exact ⟨none, 0, 0, fun _ _ => 0, h1, Nat.le_refl _, by simp [maxLen], fun h => absurd h (Nat.lt_irrefl _)⟩
  · injection h1 with h1 _
    have each : ∀ i, i < len → ∀ j, j < m → ∃ z, w.cell? ((a.add (i * m)).add j) = some (.int k z) ∧ (Lit.int k z).wf = true := by
      intro i hi j hj
      obtain ⟨cs, hcs, htr⟩ := hel i (by rw [hmm]; split <;> omega)
      obtain ⟨xs, q, _, _, hlen, hxl, hget⟩ := DataW.trod_array he htr
      have h2 := hget j hj
      rw [cb, Nat.mul_one] at h2
      have h3 : xs[j]? = some (xs[j]'(by omega)) := List.getElem?_eq_getElem (by omega)
      rw [h3] at h2
      obtain ⟨z, hz, _, hwf⟩ := DataW.trod_int hb h2
      rw [ce] at hlen hcs
      have h4 : cs[j]? = some (.int k z) := by
        have h5 : (List.take 1 (List.drop j cs))[0]? = some (.int k z) := by rw [hz]; rfl
        rw [List.getElem?_take] at h5
        simpa using h5
      exact ⟨z, by rw [(World.cells?_some hcs).2.2 j (by omega)]; exact h4, hwf⟩
    refine ⟨some a, len, cap, fun i j => if h : i < len ∧ j < m then Classical.choose (each i h.1 j h.2) else 0, h1, hl, hc, fun hpos => ?_⟩
    obtain ⟨bb, off, spot⟩ := a
    have hspot : spot = none := by
      obtain ⟨z, hz, _⟩ := each 0 hpos 0 hm
      simpa [Addr.add] using World.cell?_spot hz
    subst hspot
    refine ⟨bb, off, rfl, ?_, fun i hi j hj => ?_⟩
    · obtain ⟨z, hz, _⟩ := each 0 hpos 0 hm
      have := World.block_lt_of_cell? w _ hz
      simpa [Addr.add] using this
    · simp only [hi, hj, and_self, dite_true]
      obtain ⟨h2, h3⟩ := Classical.choose_spec (each i hi j hj)
      refine ⟨?_, h3⟩
      rw [← h2]
      congr 1
      simp only [WideShapes.add_plain]
      congr 1
      omega
/-- WHAT THE WALK IS TOLD OF A SLICE OF INTEGERS THAT CAME IN: it is nil; or it leads to a row of 'cap' cells, the numbers 'zs' (the first 'len' are its elements, the rest its spare room), each fitting its kind. -/
def IsRow (k : IntKind) (w : World) (a : Option Addr) (len cap : Nat) (zs : List Int) : Prop :=
  (a = none ∧ len = 0 ∧ cap = 0 ∧ zs = []) ∨
  ∃ x, a = some x ∧ len ≤ cap ∧ cap ≤ maxLen ∧ zs.length = cap ∧ (∀ i, i < zs.length → w.cell? (x.add i) = some (.int k (zs.getD i 0))) ∧ ∀ n ∈ zs, (Lit.int k n).wf = true


theorem wf_u8 {n : Int} (h : (Lit.int .u8 n).wf = true) : 0 ≤ n ∧ n < 256 := by have := bounds_u8 h; omega

theorem IsRow.reads {w : World} {a : Option Addr} {len cap : Nat} {zs : List Int} (h : IsRow .u8 w a len cap zs) : ReadsInt w .u8 a len (zs.take len) ∧ len ≤ cap ∧ (∀ x ∈ zs.take len, 0 ≤ x ∧ x < 256) ∧ (∀ ad, a = some ad → 0 < len → ad.block < w.heap.size) := by
  rcases h with ⟨rfl, rfl, rfl, rfl⟩ | ⟨x, rfl, h1, h2, h3, h4, h5⟩
  · exact ⟨⟨rfl, by decide, fun h => absurd h (Nat.lt_irrefl _)⟩, Nat.le_refl _, by simp, fun ad h => by cases h⟩
  · refine ⟨⟨by rw [List.length_take]; omega, by unfold maxLen at h2; omega, fun _ => ⟨x, rfl, fun j hj => ?_⟩⟩, h1, fun y hy => wf_u8 (h5 y (List.mem_of_mem_take hy)), fun ad h hp => ?_⟩
    · rw [h4 j (by omega)]
      simp [List.getD_eq_getElem?_getD, List.getElem?_take, hj]
    · cases h
      have := World.block_lt_of_cell? w _ (h4 0 (by omega))
      simpa [Addr.add] using this

/-- string(b) of bytes that are read. -/
theorem reads_string {w : World} {A : Option Addr} {n c : Nat} {xs : List Int} (h : ReadsInt w .u8 A n xs) (hn : 0 < n) : (convert 30 9 (.slice A n c)).run Try.prog w = .ok (.string (strOfNums xs)) w := by
  obtain ⟨ad, rfl, hc⟩ := h.2.2 hn
  obtain ⟨g, off, spot⟩ := ad
  have hspot : spot = none := by simpa [Addr.add] using World.cell?_spot (hc 0 hn)
  subst hspot
  refine run_convert_bytes_arg w 30 5 Try.underlying30 Try.underlying5 g off n c xs h.1 (fun i hi => ?_) 9 Try.underlying9
  rw [← WideShapes.add_plain]
  exact hc i hi
end Go.Proofs.Ytnakolpaabpifaa
