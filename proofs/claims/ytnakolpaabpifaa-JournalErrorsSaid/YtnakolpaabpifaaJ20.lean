/- Rows of records off their block. -/
import Derived.Test.YtnakolpaabpifaaJ18
set_option linter.unusedVariables false
set_option linter.unusedSimpArgs false
namespace Go.Proofs.Ytnakolpaabpifaa
open Go.RowKit Go.Proofs.YtnakolpaabpifaaW.PrintWords Go.Proofs.YtnakolpaabpifaaW.PrintLast

theorem F_blk {w : World} {g : Nat} {vs : List Value} {xs : List (List Int)} {okp ok : Nat → Prop} (hb : w.heap[g]? = some (.cells vs.toArray 30 (0, 0))) (hl : vs.length = xs.length) (hm : vs.length ≤ 1000000000) (h : ∀ j (hj : j < xs.length), Kd.FK KB w okp xs[j] [vs[j]'(by omega)]) (hok : ∀ k, okp k → ok k) (hn : ok g) :
    Kd.F KB w ok (some ⟨g, 0, none⟩) vs.length xs := fun W' hW => by
  have hbl := (hW g hn (blk_lt hb)).trans hb
  refine ⟨hl.symm, by omega, fun hp => ⟨_, rfl, fun j p hj => ?_⟩⟩
  obtain ⟨hjl, rfl⟩ := List.getElem?_eq_some_iff.1 hj
  refine ⟨[vs[j]'(by omega)], rfl, h j hjl W' (fun k hk hkl => hW k (hok k hk) hkl), fun i u hu => ?_⟩
  have hi : i = 0 := by
    rcases i with _ | i
    · rfl
    · simp at hu
  subst hi
  rw [add_plain, blk_cell hbl]
  have e : j * KB.sz + 0 = j := by show j * 1 + 0 = j; omega
  rw [e, ← hu]
  simp [List.getElem?_eq_getElem (show j < vs.length by omega)]
theorem FK_nil (w : World) (ok : Nat → Prop) : Kd.FK KB w ok [] [.slice none 0 0] := fun W' _ => ⟨none, 0, rfl, Nat.le_refl _, ⟨rfl, by decide, fun h => absurd h (Nat.lt_irrefl _)⟩⟩
end Go.Proofs.Ytnakolpaabpifaa
