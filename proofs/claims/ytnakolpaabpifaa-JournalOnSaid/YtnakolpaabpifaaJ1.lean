/- The journal's format: a frame is read again; what a crash leaves of it is torn and is no frame. -/
import Derived.Test.YtnakolpaabpifaaJ0
set_option linter.unusedVariables false
set_option linter.unusedSimpArgs false
namespace Go.Proofs.Ytnakolpaabpifaa
open Go.RowKit Go.Proofs.YtnakolpaabpifaaW.PrintWords

/-- Records that Append takes. -/
structure VR (rs : List (List Int)) : Prop where
  n1 : 1 ≤ rs.length
  n2 : rs.length ≤ 16
  len : ∀ r ∈ rs, r.length ≤ 4096
  bytes : ∀ r ∈ rs, IsBytes r

def lensL (rs : List (List Int)) : List Int := rs.map fun r => (r.length : Int)
theorem lensP_length (rs : List (List Int)) : (lensP rs).length = 2 * rs.length := by
  induction rs with
  | nil => rfl
  | cons r rs ih =>
    have : lensP (r :: rs) = putP r.length 2 ++ lensP rs := rfl
    rw [this, List.length_append, putP_length, ih, List.length_cons]
    omega
theorem sum_lensL (rs : List (List Int)) : (lensL rs).sum = (rs.flatten.length : Int) := by
  induction rs with
  | nil => rfl
  | cons r rs ih =>
    have : lensL (r :: rs) = (r.length : Int) :: lensL rs := rfl
    rw [this, List.sum_cons, ih, List.flatten_cons, List.length_append]
    omega
theorem bodyP_length (rs : List (List Int)) : (bodyP rs).length = 1 + 2 * rs.length + rs.flatten.length := by
  unfold bodyP
  rw [List.length_cons, List.length_append, lensP_length]
  omega
theorem flat_le (rs : List (List Int)) (h : ∀ r ∈ rs, r.length ≤ 4096) : rs.flatten.length ≤ 4096 * rs.length := by
  induction rs with
  | nil => simp
  | cons r rs ih =>
    have := ih fun x hx => h x (List.mem_cons_of_mem _ hx)
    have := h r (by simp)
    rw [List.flatten_cons, List.length_append, List.length_cons]
    omega
theorem VR.body {rs : List (List Int)} (h : VR rs) : 3 ≤ (bodyP rs).length ∧ (bodyP rs).length ≤ 65569 := by
  have := flat_le rs h.len
  have := h.n1
  have := h.n2
  rw [bodyP_length]
  omega
theorem flatten_bytes {rs : List (List Int)} (h : ∀ r ∈ rs, IsBytes r) : IsBytes rs.flatten := fun x hx => by
  obtain ⟨r, hr, hx⟩ := List.mem_flatten.1 hx
  exact h r hr x hx
theorem lensP_bytes (rs : List (List Int)) : IsBytes (lensP rs) := fun x hx => by
  obtain ⟨r, _, hx⟩ := List.mem_flatMap.1 hx
  exact putP_bytes _ _ x hx
theorem VR.bodyBytes {rs : List (List Int)} (h : VR rs) : IsBytes (bodyP rs) := fun x hx => by
  unfold bodyP at hx
  rcases List.mem_cons.1 hx with rfl | hx
  · omega
  · exact (lensP_bytes rs).append (flatten_bytes h.bytes) x hx
theorem VR.frameBytes {rs : List (List Int)} (h : VR rs) : IsBytes (frameP rs) := (putP_bytes _ _).append ((putP_bytes _ _).append h.bodyBytes)
theorem frameP_length (rs : List (List Int)) : (frameP rs).length = 8 + (bodyP rs).length := by
  unfold frameP
  rw [List.length_append, List.length_append, putP_length, putP_length]
  omega

/-- The j-th length. -/
theorem lens_at (rs : List (List Int)) (t : List Int) (j : Nat) (hj : j < rs.length) : ((lensP rs ++ t).drop (2 * j)).take 2 = putP (rs[j].length : Int) 2 := by
  induction rs generalizing j with
  | nil => simp at hj
  | cons r rs ih =>
    have e : lensP (r :: rs) ++ t = putP (r.length : Int) 2 ++ (lensP rs ++ t) := by rw [← List.append_assoc]; rfl
    rw [e]
    cases j with
    | zero =>
      rw [Nat.mul_zero, List.drop_zero, List.take_append_of_le_length (by rw [putP_length]; omega), List.take_of_length_le (by rw [putP_length]; omega)]
      rfl
    | succ j =>
      have h2 : 2 * (j + 1) = (putP (r.length : Int) 2).length + 2 * j := by rw [putP_length]; omega
      rw [h2, List.drop_length_add_append]
      exact ih j (by simpa using hj)
theorem body_at (rs : List (List Int)) (j : Nat) (hj : j < rs.length) : ((bodyP rs).drop (1 + 2 * j)).take 2 = putP (rs[j].length : Int) 2 := by
  unfold bodyP
  rw [Nat.add_comm, List.drop_succ_cons]
  exact lens_at rs _ j hj
theorem lens_get (rs : List (List Int)) (h : ∀ r ∈ rs, r.length ≤ 4096) (j : Nat) (hj : j < rs.length) : getP (putP (rs[j].length : Int) 2) = (rs[j].length : Int) := by
  have := h rs[j] (List.getElem_mem hj)
  refine get_put _ _ (by omega) ?_
  show (rs[j].length : Int) < 256 ^ 2
  omega

/-- What the loop over the lengths finds, where what is there of them is right. -/
theorem lenLoop_right (b : List Int) (L : List Int) (h : ∀ j (hj : j < L.length), 1 + 2 * j + 2 ≤ b.length → getP ((b.drop (1 + 2 * j)).take 2) = L[j]) (hL : ∀ x ∈ L, 0 ≤ x ∧ x ≤ 4096) :
    ∀ (m i : Nat) (l : List Int) (t : Int), i + m = L.length → l.length = i →
      (lenLoop b m i l t).2.2.2 = true ∧
      ((lenLoop b m i l t).2.2.1 = true → (lenLoop b m i l t).1 = l ++ L.drop i ∧ (lenLoop b m i l t).2.1 = t + (L.drop i).sum) ∧
      ((lenLoop b m i l t).2.2.1 = false → (lenLoop b m i l t).2.1 ≤ t + (L.drop i).sum ∧ t + (L.drop i).sum ≤ (lenLoop b m i l t).2.1 + ((L.length : Int) - (lenLoop b m i l t).1.length) * 4096) ∧
      (1 + 2 * L.length ≤ b.length → (lenLoop b m i l t).2.2.1 = true) := by
  intro m
  induction m with
  | zero =>
    intro i l t him hl
    have : L.drop i = [] := List.drop_of_length_le (by omega)
    simp [lenLoop, this]
  | succ m ih =>
    intro i l t him hl
    have hi : i < L.length := by omega
    have hd : L.drop i = L[i] :: L.drop (i + 1) := List.drop_eq_getElem_cons hi
    by_cases hb : b.length < 1 + 2 * i + 2
    · have e : lenLoop b (m + 1) i l t = (l, t, false, true) := by rw [lenLoop, if_pos hb]
      rw [e]
      have hs : ∀ (M : List Int), (∀ x ∈ M, 0 ≤ x ∧ x ≤ 4096) → 0 ≤ M.sum ∧ M.sum ≤ (M.length : Int) * 4096 := by
        intro M
        induction M with
        | nil => simp
        | cons x M ihM =>
          intro hM
          have h1 := hM x (by simp)
          have h2 := ihM fun y hy => hM y (List.mem_cons_of_mem _ hy)
          rw [List.sum_cons, List.length_cons]
          omega
      have h1 := hs (L.drop i) fun x hx => hL x (List.mem_of_mem_drop hx)
      rw [List.length_drop] at h1
      refine ⟨rfl, by simp, fun _ => ⟨by show t ≤ _; omega, ?_⟩, fun hbl => by omega⟩
      show _ ≤ t + ((L.length : Int) - l.length) * 4096
      rw [hl]
      omega
    · have hg := h i hi (by omega)
      have hk : ¬ 4096 < getP ((b.drop (1 + 2 * i)).take 2) := by have := (hL _ (List.getElem_mem hi)).2; rw [hg]; omega
      have e : lenLoop b (m + 1) i l t = lenLoop b m (i + 1) (l ++ [L[i]]) (t + L[i]) := by
        rw [lenLoop, if_neg hb, if_neg hk, hg]
      rw [e]
      obtain ⟨a1, a2, a3, a4⟩ := ih (i + 1) (l ++ [L[i]]) (t + L[i]) (by omega) (by simp [hl])
      refine ⟨a1, fun hw => ?_, fun hw => ?_, a4⟩
      · obtain ⟨c1, c2⟩ := a2 hw
        rw [c1, c2, hd, List.sum_cons]
        exact ⟨by simp, by omega⟩
      · have := a3 hw
        rw [hd, List.sum_cons]
        omega
/-- A length that is too great is found. -/
theorem lenLoop_wrong (b : List Int) (q : Nat) (hq : 1 + 2 * q + 2 ≤ b.length) (hbad : 4096 < getP ((b.drop (1 + 2 * q)).take 2)) (hok : ∀ j, j < q → getP ((b.drop (1 + 2 * j)).take 2) ≤ 4096) :
    ∀ (m i : Nat) (l : List Int) (t : Int), i ≤ q → q < i + m → lenLoop b m i l t = ([], 0, false, false) := by
  intro m
  induction m with
  | zero => intro i l t h1 h2; omega
  | succ m ih =>
    intro i l t h1 h2
    rw [lenLoop, if_neg (by omega)]
    by_cases he : i = q
    · subst he; rw [if_pos hbad]
    · rw [if_neg (by have := hok i (by omega); omega)]
      exact ih _ _ _ (by omega) (by omega)

theorem lensL_range {rs : List (List Int)} (h : ∀ r ∈ rs, r.length ≤ 4096) : ∀ x ∈ lensL rs, 0 ≤ x ∧ x ≤ 4096 := fun x hx => by
  obtain ⟨r, hr, rfl⟩ := List.mem_map.1 hx
  have := h r hr
  omega
theorem head_body (rs : List (List Int)) (h : VR rs) : ((rs.length : Int) % 256) = rs.length := by have := h.n2; omega

/-- Of a beginning of a body that has its first byte: what 'lengths' tells. -/
theorem lengths_prefix (rs : List (List Int)) (h : VR rs) (p : List Int) (hp : p.head? = some (rs.length : Int)) (hat : ∀ j, j < rs.length → 1 + 2 * j + 2 ≤ p.length → (p.drop (1 + 2 * j)).take 2 = ((bodyP rs).drop (1 + 2 * j)).take 2) :
    (lengthsP p).2.2.2 = true ∧
    ((lengthsP p).2.2.1 = true → (lengthsP p).1 = lensL rs ∧ (lengthsP p).2.1 = (bodyP rs).length) ∧
    ((lengthsP p).2.2.1 = false → (lengthsP p).2.1 ≤ (bodyP rs).length ∧ ((bodyP rs).length : Int) ≤ (lengthsP p).2.1 + ((rs.length : Int) - (lengthsP p).1.length) * 4096) ∧
    (1 + 2 * rs.length ≤ p.length → (lengthsP p).2.2.1 = true) := by
  cases p with
  | nil => simp at hp
  | cons x p =>
    have hx : x = (rs.length : Int) := by simpa using hp
    subst hx
    have h1 := h.n1
    have h2 := h.n2
    have e : lengthsP ((rs.length : Int) :: p) = lenLoop ((rs.length : Int) :: p) rs.length 0 [] (1 + 2 * (rs.length : Int)) := by
      rw [lengthsP, if_neg (by omega), Int.toNat_natCast]
    rw [e]
    have hl : (lensL rs).length = rs.length := by simp [lensL]
    obtain ⟨a1, a2, a3, a4⟩ := lenLoop_right ((rs.length : Int) :: p) (lensL rs) (fun j hj hb => by
      rw [hat j (by omega) hb, body_at rs j (by omega), lens_get rs h.len j (by omega)]
      simp [lensL]) (lensL_range h.len) rs.length 0 [] (1 + 2 * (rs.length : Int)) (by omega) rfl
    rw [hl, List.drop_zero, sum_lensL] at *
    rw [bodyP_length]
    refine ⟨a1, fun hw => ?_, fun hw => ?_, a4⟩
    · obtain ⟨c1, c2⟩ := a2 hw
      exact ⟨by simpa using c1, by omega⟩
    · have := a3 hw
      omega
end Go.Proofs.Ytnakolpaabpifaa
