/- Append where nothing happens: no records, too long, dead. -/
import Derived.Test.YtnakolpaabpifaaJ12
set_option linter.unusedVariables false
set_option linter.unusedSimpArgs false
namespace Go.Proofs.Ytnakolpaabpifaa
open Go.RowKit Go.Proofs.YtnakolpaabpifaaW.PrintWords Go.Proofs.YtnakolpaabpifaaW.PrintLast

/-- What Append refuses for its records. -/
def LongR (rs : List (List Int)) : Prop := 16 < rs.length ∨ ∃ r ∈ rs, 4096 < r.length

set_option maxHeartbeats 400000 in
theorem append_empty (w : World) (p : Option Addr) (A : Option Addr) (c : Nat) : Calls Try.prog 30 #[.pointer p, .slice A 0 c] w fun e w' => e = .returned (.int .i64 21) ∧ w = w' := by
  go_enter Try.func30, Try.ntmps30
  go_wp2
  go_ret
  exact ⟨rfl, rfl⟩
set_option maxHeartbeats 400000 in
theorem append_long (w : World) (p : Option Addr) (A : Option Addr) (n c : Nat) (rs : List (List Int)) (hr : Kd.C KB w A n rs) (hc : n ≤ c) (h0 : 0 < n) (hn9 : n ≤ 1000000000) (hm : ∀ r ∈ rs, r.length ≤ 1000000000) (hl : LongR rs) :
    Calls Try.prog 30 #[.pointer p, .slice A n c] w fun e w' => e = .returned (.int .i64 2) ∧ Below w.heap.size w w' := by
  have hn : rs.length = n := hr.1
  by_cases h16 : 16 < n
  · clear hl hm hr
    go_enter Try.func30, Try.ntmps30
    go_wp2
    go_ret
    exact ⟨rfl, Below.refl _ _⟩
  · have hex : Hid (∃ r ∈ rs, 4096 < r.length) := hid (by rcases hl with h | h; omega; exact h)
    have HC := hid hr
    clear hl hr
    go_enter Try.func30, Try.ntmps30
    go_wp2_with fail
    refine (contains_is _ _ _ _ rs true HC.out hc hn9 hm (hid ⟨fun _ => hex.out, fun _ => rfl⟩)).mono ?_
    rintro e w1 ⟨rfl, hb1⟩
    go_wp2
    go_ret
    exact ⟨rfl, hb1⟩
/-- A journal that is dead, however. -/
def DeadJ (w : World) (p : Option Addr) : Prop :=
  p = none ∨ ∃ g S all dead dv, p = some ⟨g, 0, none⟩ ∧ JAt w S g (.pointer dv) all dead ∧ (dv = none ∨ (∃ gd, dv = some ⟨gd, 0, none⟩) ∧ dead = true)
theorem DeadJ.below {w w1 : World} {p : Option Addr} (h : DeadJ w p) (hb : Below w.heap.size w w1) : DeadJ w1 p := by
  rcases h with h | ⟨g, S, all, dead, dv, h1, h2, h3⟩
  · exact .inl h
  · exact .inr ⟨g, S, all, dead, dv, h1, h2.move fun k _ hl => hb.block k hl, h3⟩
theorem dead_is (w : World) (p : Option Addr) (h : DeadJ w p) : Calls Try.prog 32 #[.pointer p] w fun e w' => e = .returned (.bool true) ∧ w = w' := by
  rcases h with rfl | ⟨g, S, all, dead, dv, rfl, h2, h3⟩
  · exact dead_nil w
  · rcases h3 with rfl | ⟨⟨gd, rfl⟩, rfl⟩
    · exact dead_zero w S g all dead h2
    · exact dead_any w S g gd all true h2
set_option maxHeartbeats 400000 in
theorem append_dead (w : World) (p : Option Addr) (A : Option Addr) (n c : Nat) (rs : List (List Int)) (hr : Kd.C KB w A n rs) (hc : n ≤ c) (hv : VR rs) (hd : DeadJ w p) :
    Calls Try.prog 30 #[.pointer p, .slice A n c] w fun e w' => e = .returned (.int .i64 42) ∧ Below w.heap.size w w' := by
  have hn : rs.length = n := hr.1
  have hn1 := hv.n1
  have hn2 := hv.n2
  have hne : Hid (false = true ↔ ∃ r ∈ rs, 4096 < r.length) := hid ⟨fun h => by simp at h, fun ⟨r, hr, hl⟩ => by have := hv.len r hr; omega⟩
  have hm9 : ∀ r ∈ rs, r.length ≤ 1000000000 := fun r hr => by have := hv.len r hr; omega
  have HC := hid hr
  have HD := hid hd
  clear hr hd
  go_enter Try.func30, Try.ntmps30
  go_wp2_with fail
  refine (contains_is _ _ _ _ rs false HC.out hc (by omega) hm9 hne).mono ?_
  rintro e w1 ⟨rfl, hb1⟩
  have hd1 := HD.out.below hb1
  go_wp2_with fail
  refine (dead_is _ _ hd1).mono ?_
  rintro e w2 ⟨rfl, rfl⟩
  clear hd1
  go_wp2
  go_ret
  exact ⟨rfl, hb1⟩
end Go.Proofs.Ytnakolpaabpifaa
