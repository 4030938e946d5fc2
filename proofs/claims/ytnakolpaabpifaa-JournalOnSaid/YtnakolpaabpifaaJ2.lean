/- The journal's format: a frame is read again; what a crash leaves of it is torn and is no frame. -/
import Derived.Test.YtnakolpaabpifaaJ1
set_option linter.unusedVariables false
set_option linter.unusedSimpArgs false
namespace Go.Proofs.Ytnakolpaabpifaa
open Go.RowKit Go.Proofs.YtnakolpaabpifaaW.PrintWords

theorem nil_or_last (l : List Int) : l = [] ∨ ∃ i c, l = i ++ [c] := by
  rcases List.eq_nil_or_concat l with h | ⟨i, c, h⟩
  · exact .inl h
  · exact .inr ⟨i, c, by rw [h, List.concat_eq_append]⟩
theorem cut_flat (rs : List (List Int)) : cutP rs.flatten (lensL rs) = rs := by
  induction rs with
  | nil => rfl
  | cons r rs ih =>
    have e : lensL (r :: rs) = (r.length : Int) :: lensL rs := rfl
    rw [e, cutP, List.flatten_cons, Int.toNat_natCast, List.take_left, List.drop_left, ih]

/-- The parts of what begins with a frame. -/
theorem take4 (rs : List (List Int)) (t : List Int) : (putP (bodyP rs).length 4 ++ t).take 4 = putP (bodyP rs).length 4 := by
  have h := putP_length ((bodyP rs).length : Int) 4
  rw [List.take_append_of_le_length (by omega), List.take_of_length_le (by omega)]
theorem drop4 (n : Int) (t : List Int) : (putP n 4 ++ t).drop 4 = t := by
  have h := putP_length n 4
  rw [List.drop_append_of_le_length (by omega), List.drop_of_length_le (by omega), List.nil_append]
theorem drop8 (n m : Int) (t : List Int) : (putP n 4 ++ (putP m 4 ++ t)).drop 8 = t := by
  have : (putP n 4 ++ (putP m 4 ++ t)).drop 8 = ((putP n 4 ++ (putP m 4 ++ t)).drop 4).drop 4 := by rw [List.drop_drop]
  rw [this, drop4, drop4]
theorem size_get (rs : List (List Int)) (h : VR rs) : getP (putP (bodyP rs).length 4) = (bodyP rs).length := by
  have := h.body
  exact get_put _ _ (by omega) (by show _ < (256 : Int) ^ 4; omega)
theorem sum_get (l : List Int) : getP (putP (sumP l) 4) = sumP l := by
  have := sumP_range l
  exact get_put _ _ (by omega) (by show _ < (256 : Int) ^ 4; omega)

/-- What 'first' finds where a whole body stands behind the size. -/
theorem first_body (rs : List (List Int)) (h : VR rs) (s : Int) (b t : List Int) (hb : b.length = (bodyP rs).length) :
    (firstP (putP (bodyP rs).length 4 ++ (putP s 4 ++ (b ++ t)))).2.2 = true → sumP (putP (bodyP rs).length 4 ++ b) = getP (putP s 4) := by
  intro hf
  unfold firstP at hf
  have h4 := size_get rs h
  have h8 := drop8 (bodyP rs).length s (b ++ t)
  have hl : (putP ((bodyP rs).length : Int) 4 ++ (putP s 4 ++ (b ++ t))).length = 8 + (b ++ t).length := by
    rw [List.length_append, List.length_append, putP_length, putP_length]; omega
  rw [if_neg (by omega)] at hf
  by_cases h1 : 65569 < getP ((putP ((bodyP rs).length : Int) 4 ++ (putP s 4 ++ (b ++ t))).take 4) ∨ ((putP ((bodyP rs).length : Int) 4 ++ (putP s 4 ++ (b ++ t))).length : Int) < 8 + getP ((putP ((bodyP rs).length : Int) 4 ++ (putP s 4 ++ (b ++ t))).take 4)
  · rw [if_pos h1] at hf; simp at hf
  · rw [if_neg h1] at hf
    simp only [take4, drop4, h8, h4, Int.toNat_natCast] at hf
    have e : (putP s 4 ++ (b ++ t)).take 4 = putP s 4 := by
      have h := putP_length s 4
      rw [List.take_append_of_le_length (by omega), List.take_of_length_le (by omega)]
    rw [← hb, List.take_left, e] at hf
    rw [← hb]
    split at hf
    · rename_i hc; exact hc.2.2.2
    · simp at hf

/-- T1: the first frame is read. -/
theorem first_frame (rs : List (List Int)) (h : VR rs) (t : List Int) : firstP (frameP rs ++ t) = (rs, ((frameP rs).length : Int), true) := by
  have e0 : frameP rs ++ t = putP (bodyP rs).length 4 ++ (putP (sumP (putP (bodyP rs).length 4 ++ bodyP rs)) 4 ++ (bodyP rs ++ t)) := by simp [frameP]
  have hl : (frameP rs ++ t).length = 8 + (bodyP rs).length + t.length := by rw [List.length_append, frameP_length]
  have h4 : (frameP rs ++ t).take 4 = putP (bodyP rs).length 4 := by rw [e0, take4]
  have h44 : ((frameP rs ++ t).drop 4).take 4 = putP (sumP (putP (bodyP rs).length 4 ++ bodyP rs)) 4 := by
    rw [e0, drop4]
    have h := putP_length (sumP (putP (bodyP rs).length 4 ++ bodyP rs)) 4
    rw [List.take_append_of_le_length (by omega), List.take_of_length_le (by omega)]
  have h8 : (frameP rs ++ t).drop 8 = bodyP rs ++ t := by rw [e0, drop8]
  have hb := h.body
  have hg := size_get rs h
  unfold firstP
  rw [if_neg (by omega), h4, hg, if_neg (by omega), h44, h8]
  simp only [Int.toNat_natCast, List.take_left, sum_get]
  have hn : bodyP rs = (rs.length : Int) :: (lensP rs ++ rs.flatten) := by
    unfold bodyP; rw [head_body rs h]
  obtain ⟨a1, a2, a3, a4⟩ := lengths_prefix rs h (bodyP rs) (by rw [hn]; rfl) (fun j _ _ => rfl)
  have aw := a4 (by rw [bodyP_length]; omega)
  obtain ⟨c1, c2⟩ := a2 aw
  rw [if_pos ⟨a1, aw, c2, trivial⟩, c1]
  have hd : (bodyP rs).drop (1 + 2 * (lensL rs).length) = rs.flatten := by
    rw [hn, Nat.add_comm, List.drop_succ_cons]
    have : 2 * (lensL rs).length = (lensP rs).length := by rw [lensP_length]; simp [lensL]
    rw [this, List.drop_left]
  rw [hd, cut_flat, frameP_length]
  simp

theorem reach1 (s : Int) (k : Nat) (n : Int) (h3 : 3 ≤ n) (h : n ≤ 65569) : reachLoop s (k + 1) n = true := by
  rw [reachLoop, if_pos h, if_pos h3]
theorem reach2 (s : Int) (k : Nat) (n : Int) (h3 : n ≤ 65569) (h0 : 3 ≤ n + s) (h : n + s ≤ 65569) : reachLoop s (k + 2) n = true := by
  rw [reachLoop, if_pos h3]
  split
  · rfl
  · exact reach1 s k _ h0 h
theorem reachP_len (l : List Int) (s n : Int) (h : (256 : Int) ^ l.length = s) (hn : getP l = n) : reachP l = reachLoop s 10 n := by
  unfold reachP; rw [h, hn]
/-- T4: a proper beginning is known as such. -/
theorem begins_prefix (rs : List (List Int)) (h : VR rs) (m : Nat) (h0 : 0 < m) (h1 : m < (frameP rs).length) : beginsP ((frameP rs).take m) = true := by
  have hb := h.body
  have hfl := frameP_length rs
  have hm : ((frameP rs).take m).length = m := by rw [List.length_take]; omega
  generalize hs : sumP (putP (bodyP rs).length 4 ++ bodyP rs) = s
  have e0 : frameP rs = putP (bodyP rs).length 4 ++ (putP s 4 ++ bodyP rs) := by rw [← hs]; rfl
  unfold beginsP
  rw [hm]
  by_cases hm4 : m < 4
  · rw [if_pos hm4]
    generalize hN : ((bodyP rs).length : Int) = N at *
    have hN1 : 3 ≤ N := by omega
    have hN2 : N ≤ 65569 := by omega
    rw [e0, List.take_append_of_le_length (by rw [putP_length]; omega)]
    have : m = 1 ∨ m = 2 ∨ m = 3 := by omega
    rcases this with rfl | rfl | rfl
    · have : (putP N 4).take 1 = [N % 256] := by simp [putP]
      rw [this]
      rw [reachP_len _ 256 (N % 256) (by simp) (by simp [getP])]
      exact reach2 256 8 _ (by omega) (by omega) (by omega)
    · have : (putP N 4).take 2 = [N % 256, N / 256 % 256] := by simp [putP]
      rw [this]
      rw [reachP_len _ 65536 (N % 256 + 256 * (N / 256 % 256)) (by simp) (by simp [getP])]
      by_cases h3 : 3 ≤ N % 256 + 256 * (N / 256 % 256)
      · exact reach1 65536 9 _ h3 (by omega)
      · exact reach2 65536 8 _ (by omega) (by omega) (by omega)
    · have : (putP N 4).take 3 = [N % 256, N / 256 % 256, N / 256 / 256 % 256] := by simp [putP]
      rw [this]
      rw [reachP_len _ 16777216 (N % 256 + 256 * (N / 256 % 256 + 256 * (N / 256 / 256 % 256))) (by simp) (by simp [getP])]
      exact reach1 16777216 9 _ (by omega) (by omega)
  · rw [if_neg hm4]
    have t4 : ((frameP rs).take m).take 4 = putP (bodyP rs).length 4 := by
      rw [List.take_take, Nat.min_eq_left (by omega), e0, take4]
    simp only [t4, size_get rs h]
    rw [if_neg (by omega)]
    by_cases hm8 : m ≤ 8
    · rw [if_pos hm8]
    · rw [if_neg hm8]
      have t8 : ((frameP rs).take m).drop 8 = (bodyP rs).take (m - 8) := by
        rw [List.drop_take, e0, drop8]
      rw [t8]
      have hpl : ((bodyP rs).take (m - 8)).length = m - 8 := by rw [List.length_take]; omega
      rw [hpl, if_neg (by omega)]
      have hn : bodyP rs = (rs.length : Int) :: (lensP rs ++ rs.flatten) := by
        unfold bodyP; rw [head_body rs h]
      have hhd : ((bodyP rs).take (m - 8)).head? = some (rs.length : Int) := by
        rw [hn]
        obtain ⟨q, hq⟩ : ∃ q, m - 8 = q + 1 := ⟨m - 9, by omega⟩
        rw [hq]; rfl
      obtain ⟨a1, a2, a3, a4⟩ := lengths_prefix rs h ((bodyP rs).take (m - 8)) hhd (fun j _ hj => by
        rw [hpl] at hj
        rw [List.drop_take, List.take_take, Nat.min_eq_left (by omega)])
      rw [if_neg (by rw [a1]; decide)]
      have hr : rd ((bodyP rs).take (m - 8)) 0 = (rs.length : Int) := by
        rw [hn]
        obtain ⟨q, hq⟩ : ∃ q, m - 8 = q + 1 := ⟨m - 9, by omega⟩
        rw [hq]; rfl
      rw [hr]
      by_cases hw : (lengthsP ((bodyP rs).take (m - 8))).2.2.1 = true
      · rw [if_pos hw]
        exact decide_eq_true (a2 hw).2
      · rw [if_neg hw]
        exact decide_eq_true (a3 (by simpa using hw))

theorem frame_ne (rs : List (List Int)) : frameP rs ≠ [] := fun e => by have := frameP_length rs; rw [e] at this; simp at this; omega
theorem flip_len (l : List Int) : (flipP l).length = l.length := by simp [flipP]
theorem flip_append (a b : List Int) (hb : b ≠ []) : flipP (a ++ b) = a ++ flipP b := by
  have hp : 0 < b.length := List.length_pos_iff.2 hb
  have e : (a ++ b).length - 1 = a.length + (b.length - 1) := by rw [List.length_append]; omega
  have er : ∀ l : List Int, 0 < l.length → rd l ((l.length : Int) - 1) = l.getD (l.length - 1) 0 := fun l hl => by unfold rd; congr 1; omega
  unfold flipP
  rw [er _ (by rw [List.length_append]; omega), er _ hp, e, List.set_append_right _ _ (by omega)]
  congr 2
  · omega
  · congr 1
    simp [List.getD_eq_getElem?_getD, List.getElem?_append_right]
theorem xor_twice (x : Int) (h0 : 0 ≤ x) (h1 : x < 256) : Go.bits .xor .u8 (Go.bits .xor .u8 x 85) 85 = x := by
  have hx := xor_byte x 85 h0 h1 (by decide) (by decide)
  rw [u8_xor _ _ hx.1 hx.2 (by decide) (by decide), u8_xor x 85 h0 h1 (by decide) (by decide)]
  rw [Int.toNat_natCast, Nat.xor_assoc, Nat.xor_self, Nat.xor_zero]
  omega
theorem xor_ne (x : Int) (h0 : 0 ≤ x) (h1 : x < 256) : x ≠ Go.bits .xor .u8 x 85 := by
  intro e
  rw [u8_xor x 85 h0 h1 (by decide) (by decide)] at e
  have : x.toNat ^^^ 85 = x.toNat := by
    have : x.toNat = x.toNat ^^^ (85 : Int).toNat := by omega
    exact this.symm
  have h2 : x.toNat ^^^ (x.toNat ^^^ 85) = x.toNat ^^^ x.toNat := by rw [this]
  rw [← Nat.xor_assoc, Nat.xor_self, Nat.zero_xor] at h2
  exact absurd h2 (by decide)
theorem flip_single (x : Int) : flipP [x] = [Go.bits .xor .u8 x 85] := rfl
theorem flip_flip (l : List Int) (h : IsBytes l) : flipP (flipP l) = l := by
  rcases nil_or_last l with rfl | ⟨i, c, rfl⟩
  · rfl
  · have hc := h c (by simp)
    rw [flip_append _ _ (by simp), flip_single, flip_append _ _ (by simp), flip_single, xor_twice c hc.1 hc.2]
theorem flip_bytes (l : List Int) (h : IsBytes l) : IsBytes (flipP l) := by
  rcases nil_or_last l with rfl | ⟨i, c, rfl⟩
  · exact h
  · have hc := h c (by simp)
    rw [flip_append _ _ (by simp), flip_single]
    refine IsBytes.append (IsBytes.left h) fun x hx => ?_
    rw [List.mem_singleton] at hx
    subst hx
    exact xor_byte c 85 hc.1 hc.2 (by decide) (by decide)

/-- Too short for its size: no frame. -/
theorem first_short (rs : List (List Int)) (h : VR rs) (q : List Int) (hl : q.length < (frameP rs).length) (h4 : 8 ≤ q.length → q.take 4 = putP (bodyP rs).length 4) : (firstP q).2.2 = false := by
  unfold firstP
  by_cases h8 : q.length < 8
  · rw [if_pos h8]
  · rw [if_neg h8, if_pos]
    right
    rw [h4 (by omega), size_get rs h]
    rw [frameP_length] at hl
    omega

/-- What a crash may leave of the last frame. -/
def TornOf (rs : List (List Int)) (q : List Int) : Prop :=
  (∃ m, 0 < m ∧ m < (frameP rs).length ∧ (q = (frameP rs).take m ∨ q = flipP ((frameP rs).take m))) ∨ q = flipP (frameP rs)

theorem torn_bytes (rs : List (List Int)) (h : VR rs) (q : List Int) (ht : TornOf rs q) : IsBytes q := by
  rcases ht with ⟨m, _, _, rfl | rfl⟩ | rfl
  · exact h.frameBytes.take m
  · exact flip_bytes _ (h.frameBytes.take m)
  · exact flip_bytes _ h.frameBytes
theorem torn_pos (rs : List (List Int)) (q : List Int) (ht : TornOf rs q) : 0 < q.length := by
  have := frameP_length rs
  rcases ht with ⟨m, _, _, rfl | rfl⟩ | rfl
  · rw [List.length_take]; omega
  · rw [flip_len, List.length_take]; omega
  · rw [flip_len]; omega
/-- T2, T3: it is no frame, and it is known as torn. -/
theorem torn_first (rs : List (List Int)) (h : VR rs) (q : List Int) (ht : TornOf rs q) : (firstP q).2.2 = false := by
  have e0 : ∃ s, frameP rs = putP (bodyP rs).length 4 ++ (putP s 4 ++ bodyP rs) ∧ s = sumP (putP (bodyP rs).length 4 ++ bodyP rs) := ⟨_, rfl, rfl⟩
  obtain ⟨s, e0, es⟩ := e0
  rcases ht with ⟨m, h0, h1, rfl | rfl⟩ | rfl
  · refine first_short rs h _ (by rw [List.length_take]; omega) fun h8 => ?_
    rw [List.length_take] at h8
    rw [List.take_take, Nat.min_eq_left (by omega), e0, take4]
  · refine first_short rs h _ (by rw [flip_len, List.length_take]; omega) fun h8 => ?_
    rw [flip_len, List.length_take] at h8
    have hl : ((frameP rs).take m).length = m := by rw [List.length_take]; omega
    unfold flipP
    rw [List.take_set_of_le (by omega), List.take_take, Nat.min_eq_left (by omega), e0, take4]
  · have hne : bodyP rs ≠ [] := by unfold bodyP; simp
    rw [e0, flip_append _ _ (by simp [putP]), flip_append _ _ hne]
    cases hf : (firstP (putP (bodyP rs).length 4 ++ (putP s 4 ++ flipP (bodyP rs)))).2.2 with
    | false => rfl
    | true =>
      exfalso
      have := first_body rs h s (flipP (bodyP rs)) [] (flip_len _) (by rw [List.append_nil]; exact hf)
      rw [es, sum_get] at this
      rcases nil_or_last (bodyP rs) with hn | ⟨i, c, hc⟩
      · exact hne hn
      · have hcb := h.bodyBytes c (by rw [hc]; simp)
        generalize putP ((bodyP rs).length : Int) 4 = P at this
        rw [hc, flip_append _ _ (by simp), flip_single] at this
        rw [← List.append_assoc, ← List.append_assoc] at this
        exact sumP_last (P ++ i) _ c (xor_byte c 85 hcb.1 hcb.2 (by decide) (by decide)) hcb (fun e => xor_ne c hcb.1 hcb.2 e.symm) this
theorem torn_torn (rs : List (List Int)) (h : VR rs) (q : List Int) (ht : TornOf rs q) : tornP q = true := by
  unfold tornP
  rcases ht with ⟨m, h0, h1, rfl | rfl⟩ | rfl
  · rw [begins_prefix rs h m h0 h1]; rfl
  · rw [flip_flip _ (h.frameBytes.take m), begins_prefix rs h m h0 h1]; simp
  · rw [flip_flip _ h.frameBytes, flip_len]
    have := first_frame rs h []
    rw [List.append_nil] at this
    rw [this]
    simp
end Go.Proofs.Ytnakolpaabpifaa
