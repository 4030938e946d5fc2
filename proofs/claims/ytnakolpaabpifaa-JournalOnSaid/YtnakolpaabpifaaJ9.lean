/- The frame of records. -/
import Derived.Test.YtnakolpaabpifaaJ8
set_option linter.unusedVariables false
set_option linter.unusedSimpArgs false
namespace Go.Proofs.Ytnakolpaabpifaa
open Go.RowKit Go.Proofs.YtnakolpaabpifaaW.PrintWords Go.Proofs.YtnakolpaabpifaaW.PrintLast

def bodyA (rs : List (List Int)) (j : Nat) : List Int := (rs.length : Int) % 256 :: lensP (rs.take j)
def bodyB (rs : List (List Int)) (j : Nat) : List Int := bodyA rs rs.length ++ flatP rs j
theorem bodyA_zero (rs : List (List Int)) : bodyA rs 0 = [(rs.length : Int) % 256] := rfl
theorem bodyA_succ (rs : List (List Int)) (j : Nat) (h : j < rs.length) : bodyA rs (j + 1) = bodyA rs j ++ putP (rs[j].length : Int) 2 := by
  unfold bodyA lensP
  rw [List.take_succ_eq_append_getElem h, List.flatMap_append]
  simp
theorem bodyA_length (rs : List (List Int)) (j : Nat) (h : j ≤ rs.length) : (bodyA rs j).length = 1 + 2 * j := by
  unfold bodyA
  rw [List.length_cons, lensP_length, List.length_take]
  omega
theorem bodyB_zero (rs : List (List Int)) : bodyB rs 0 = bodyA rs rs.length := by unfold bodyB; rw [flatP_zero, List.append_nil]
theorem bodyB_succ (rs : List (List Int)) (j : Nat) (h : j < rs.length) : bodyB rs (j + 1) = bodyB rs j ++ rs[j] := by
  unfold bodyB; rw [flatP_succ rs j h, List.append_assoc]
theorem bodyB_all (rs : List (List Int)) : bodyB rs rs.length = bodyP rs := by
  unfold bodyB bodyA bodyP
  rw [flatP_all rs _ rfl, List.take_length]; rfl
theorem bodyB_le (rs : List (List Int)) (h : VR rs) (j : Nat) : (bodyB rs j).length ≤ 70000 := by
  have h1 := flatP_le rs j
  have h2 := flat_le rs h.len
  have h3 := h.n2
  unfold bodyB
  rw [List.length_append, bodyA_length rs _ (Nat.le_refl _)]
  omega

theorem K_of_readsn {w : World} {A : Option Addr} {n c : Nat} {xs : List Int} (hr : ReadsInt w .u8 A n xs) (hc : n ≤ c) : KB.K w xs [.slice A n c] := by
  obtain rfl := len_of hr
  exact K_of_reads hr hc
theorem C_lit3 {w : World} {A B C : Option Addr} {l m n a b c : Nat} {xs ys zs : List Int} (hx : ReadsInt w .u8 A l xs) (ha : l ≤ a) (hy : ReadsInt w .u8 B m ys) (hb : m ≤ b) (hz : ReadsInt w .u8 C n zs) (hc : n ≤ c) :
    Kd.C KB (w.alloc (.cells #[.slice A l a, .slice B m b, .slice C n c] 30)) (some ⟨w.heap.size, 0, none⟩) 3 [xs, ys, zs] :=
  C_lit (vs := [.slice A l a, .slice B m b, .slice C n c]) rfl (by simp) fun j hj => by
    have : j = 0 ∨ j = 1 ∨ j = 2 := by simp at hj; omega
    rcases this with rfl | rfl | rfl
    · exact K_of_readsn hx ha
    · exact K_of_readsn hy hb
    · exact K_of_readsn hz hc

set_option maxRecDepth 100000 in
set_option maxHeartbeats 1000000 in
theorem frame_is (w : World) (A : Option Addr) (n c : Nat) (rs : List (List Int)) (F : List Int) (hr : Kd.C KB w A n rs) (hc : n ≤ c) (hv : VR rs) (hF : Hid (frameP rs = F)) :
    Calls Try.prog 46 #[.slice A n c] w fun e w' => ∃ A1 c1, e = .returned (.slice A1 F.length c1) ∧ OwnB w' (fun k => w.heap.size ≤ k) (.slice A1 F.length c1) F ∧ Below w.heap.size w w' := by
  have hn : rs.length = n := hr.1
  have hn16 : n ≤ 16 := by have := hv.n2; omega
  have HR := hid hr
  clear hr
  have h0 : bodyA rs 0 = [(n : Int)] := by rw [bodyA_zero, hn]; congr 1; omega
  have hlit : OwnB (w.alloc (.cells #[.int .u8 (n : Int)] 5)) (fun k => w.heap.size ≤ k) (.slice (some ⟨w.heap.size, 0, none⟩) (bodyA rs 0).length 1) (bodyA rs 0) := by
    rw [h0]
    exact ⟨own_lit w 0 5 .u8 [(n : Int)] (Nat.zero_le _) (by simp), fun k hk => by simp [Value.ownBlock] at hk; omega⟩
  have hl0 : (bodyA rs 0).length = 1 := bodyA_length rs 0 (Nat.zero_le _)
  clear h0
  have hbl : Below w.heap.size w (w.alloc (.cells #[.int .u8 (n : Int)] 5)) := (Below.refl _ _).alloc (Nat.le_refl _) _
  go_enter Try.func46, Try.ntmps46
  go_wp2
  go_loopw [3, 5, 15] (fun v3 v5 v15 wr => ∃ (j : Nat) (A2 : Option Addr) (c2 : Nat), v15 = .int .i64 j ∧ j ≤ n ∧ v3 = .slice A2 (bodyA rs j).length c2 ∧ OwnB wr (fun k => w.heap.size ≤ k) (.slice A2 (bodyA rs j).length c2) (bodyA rs j) ∧ Below w.heap.size w wr) (fun _ _ v15 _ => n - (intOf v15).toNat)
  case atStart => exact ⟨0, _, _, rfl, Nat.zero_le _, by rw [hl0], hlit, hbl⟩
  case round =>
    clear hlit hbl
    obtain ⟨j, A2, c2, rfl, hj, rfl, ho, hb⟩ := hrel
    by_cases hlt : j < n
    · obtain ⟨ad, A0, c0, rfl, q1, q2, q3⟩ := row_at (Kd.C_below HR.out hb) j (by omega)
      have hl4 := hv.len _ (List.getElem_mem (show j < rs.length by omega))
      have hbs := hid (bodyA_succ rs j (by omega))
      have hbl : (bodyA rs j).length ≤ 100 := by rw [bodyA_length rs j (by omega)]; omega
      generalize rs[j]'(by omega) = r at *
      go_wp2_with fail
      refine (put_any _ _ 2 (by decide)).mono ?_
      rintro e w1 ⟨A3, c3, rfl, ho3, hb3⟩
      have ho1 := ho.move (w1 := w1) fun k _ hk => hb3.block k hk
      have hr3 := ho3.reads2.2.2
      have hb4 : Below w.heap.size w w1 := hb.trans (hb3.mono hb.size)
      clear ho ho3 hb3 hb q1 q2 q3
      go_wp2_with (at_builtin; refine wp_append_bytes (.tmp 19) (.tmp 23) rfl rfl (fun k => w.heap.size ≤ k) _ _ (putP (r.length : Int) 2) A3 2 c3 rfl rfl ho1 hr3 (by omega) ?_)
      intro A4 c4 w3 ho4 hf4
      have e3 : (bodyA rs j).length + 2 = (bodyA rs (j + 1)).length := by rw [hbs.out, List.length_append, putP_length]
      rw [← hbs.out, e3] at ho4
      rw [e3]
      have hb5 : Below w.heap.size w w3 := hb4.trans (hf4.below (B := w.heap.size) hb4.size (fun k hk => ho1.2 k hk))
      have ho5 := ho4.mono (S1 := fun k => w.heap.size ≤ k) fun k hk => by rcases hk with hk | hk; exact hk; have := hb4.size; omega
      clear ho4 hf4 ho1 hr3 hb4 hbl e3
      go_wp2
      go_roundw
      case rel => exact ⟨j + 1, A4, c4, by go_num, by omega, rfl, ho5, hb5⟩
      case measure => simp [intOf]; omega
    · obtain rfl : j = n := by omega
      have e0 : bodyA rs j = bodyB rs 0 := by rw [bodyB_zero, hn]
      rw [e0] at ho ⊢
      clear e0 hj hl0
      go_wp2
      go_loopw [3, 7, 28] (fun v3 v7 v28 wr => ∃ (k : Nat) (A2 : Option Addr) (c2 : Nat), v28 = .int .i64 k ∧ k ≤ j ∧ v3 = .slice A2 (bodyB rs k).length c2 ∧ OwnB wr (fun k => w.heap.size ≤ k) (.slice A2 (bodyB rs k).length c2) (bodyB rs k) ∧ Below w.heap.size w wr) (fun _ _ v28 _ => j - (intOf v28).toNat)
      case atStart => exact ⟨0, _, _, rfl, Nat.zero_le _, rfl, ho, hb⟩
      case round =>
        clear ho hb
        obtain ⟨k, A2, c2, rfl, hk, rfl, ho, hb⟩ := hrel
        by_cases hlt : k < j
        · obtain ⟨ad, A0, c0, rfl, q1, q2, q3⟩ := row_at (Kd.C_below HR.out hb) k (by omega)
          have hbs := hid (bodyB_succ rs k (by omega))
          have hl4 := hv.len _ (List.getElem_mem (show k < rs.length by omega))
          have hle := bodyB_le rs hv k
          generalize rs[k]'(by omega) = r at *
          go_wp2_with (at_builtin; refine wp_append_bytes (.tmp 32) (.tmp 33) rfl rfl (fun k => w.heap.size ≤ k) _ _ r A0 _ c0 rfl rfl ho q3 (by omega) ?_)
          intro A3 c3 w3 ho3 hf3
          have e3 : (bodyB rs k).length + r.length = (bodyB rs (k + 1)).length := by rw [hbs.out, List.length_append]
          rw [← hbs.out, e3] at ho3
          rw [e3]
          have hb3 : Below w.heap.size w w3 := hb.trans ((hf3.below (B := w.heap.size) hb.size (fun k hk => ho.2 k hk)))
          have ho4 := ho3.mono (S1 := fun k => w.heap.size ≤ k) fun k hk => by rcases hk with hk | hk; exact hk; have := hb.size; omega
          clear ho3 hf3 ho hb q1 q2 q3 e3 hle
          go_wp2
          go_roundw
          case rel => exact ⟨k + 1, A3, c3, by go_num, by omega, rfl, ho4, hb3⟩
          case measure => simp [intOf]; omega
        · obtain rfl : k = j := by omega
          have e0 : bodyB rs k = bodyP rs := by rw [← hn, bodyB_all]
          have hbb := hv.body
          have hby := hv.bodyBytes
          rw [e0] at ho ⊢
          clear e0
          have hF2 : Hid (putP (bodyP rs).length 4 ++ (putP (sumP (putP (bodyP rs).length 4 ++ bodyP rs)) 4 ++ bodyP rs) = F) := hid hF.out
          clear hF
          generalize bodyP rs = B at *
          go_wp2_with fail
          refine (put_any _ _ 4 (by decide)).mono ?_
          rintro e w1 ⟨A3, c3, rfl, ho3, hb3⟩
          have ho1 := ho.move (w1 := w1) fun k _ hk => hb3.block k hk
          obtain hr3 := ho3.reads2.2
          obtain hr1 := ho1.reads2.2
          have hb4 : Below w.heap.size w w1 := hb.trans (hb3.mono hb.size)
          have hBl : (putP (B.length : Int) 4 ++ B).length ≤ 100000 := by rw [List.length_append, putP_length]; omega
          have hPb := putP_bytes (B.length : Int) 4
          have hPl := putP_length (B.length : Int) 4
          clear ho ho1 ho3 hb3 hb
          generalize putP (B.length : Int) 4 = P at *
          have hPl2 : P.length ≤ 10 := by omega
          clear hPl
          go_wp2_with fail
          refine (fsum_any _ _ _ _ _ _ _ P B hr3.2 hr3.1 hr1.2 hr1.1 hPb hby (by omega)).mono ?_
          rintro e w2 ⟨rfl, hb5⟩
          have hr3' := hr3.2.below hb5
          have hr1' := hr1.2.below hb5
          have hb6 := hb4.trans (hb5.mono hb4.size)
          generalize sumP (P ++ B) = s at *
          go_wp2_with fail
          refine (put_any _ s 4 (by decide)).mono ?_
          rintro e w3 ⟨A5, c5, rfl, ho5, hb7⟩
          have hr5 := ho5.reads2.2
          have hr3'' := hr3'.below hb7
          have hr1'' := hr1'.below hb7
          have hb8 := hb6.trans (hb7.mono hb6.size)
          have hQl := putP_length s 4
          generalize putP s 4 = Q at *
          have hC := C_lit3 hr3'' hr3.1 hr5.2 hr5.1 hr1'' hr1.1
          have hFl : F.length ≤ 100000 := by rw [← hF2.out, List.length_append, List.length_append, hQl]; omega
          have hfl : [P, Q, B].flatten = F := by rw [← hF2.out]; simp
          have HFL := hid hfl
          clear hfl hb4 hb5 hb6 hb7 hr3 hr1 hr3' hr1' hr3'' hr1'' hr5 ho5 hF2 hQl
          go_wp2_with fail
          refine (concat_any _ _ 3 3 [P, Q, B] F hC (Nat.le_refl _) HFL.out (by omega) (by omega)).mono ?_
          rintro e w4 ⟨A6, c6, rfl, ho6, hb9⟩
          have hb10 : Below w.heap.size w w4 := (hb8.alloc hb8.size _).trans (hb9.mono (by simp; have := hb8.size; omega))
          have ho7 : OwnB w4 (fun k => w.heap.size ≤ k) (.slice A6 F.length c6) F := ho6.mono fun k hk => by simp at hk; have := hb8.size; omega
          clear ho6 hb9 hb8 hC
          go_wp2
          go_ret
          exact ⟨A6, c6, rfl, ho7, hb10⟩
end Go.Proofs.Ytnakolpaabpifaa
