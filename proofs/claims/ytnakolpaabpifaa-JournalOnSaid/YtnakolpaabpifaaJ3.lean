/- The printed walks of the journal's small functions, as the plain functions of J0. -/
import Derived.Test.YtnakolpaabpifaaJ2
import Derived.Test.YtnakolpaabpifaaPfirstx1
import Derived.Test.YtnakolpaabpifaaPputx1
import Derived.Test.YtnakolpaabpifaaPreachablex1
import Derived.Laws.BitsAllLaws
set_option linter.unusedVariables false
set_option linter.unusedSimpArgs false
namespace Go.Proofs.Ytnakolpaabpifaa
open Go.RowKit Go.Proofs.YtnakolpaabpifaaW.PrintWords

theorem w64 (x : Int) (h0 : -9223372036854775808 ≤ x) (h1 : x ≤ 9223372036854775807) : wrap64 x = x := by
  simp only [wrap64]; omega
theorem or_add (i : Nat) (a b : Int) (ha : 0 ≤ a) (hab : a * 2 ^ i < 4294967296) (hb : 0 ≤ b) (hbi : b < 2 ^ i) (hb2 : b < 4294967296) : Go.bits .or .u32 (a * 2 ^ i) b = a * 2 ^ i + b := by
  have hp : (0 : Int) ≤ a * 2 ^ i := Int.mul_nonneg ha (Int.pow_nonneg (by decide))
  rw [u32_or _ b hp hab hb hb2]
  obtain ⟨a', rfl⟩ := Int.eq_ofNat_of_zero_le ha
  obtain ⟨b', rfl⟩ := Int.eq_ofNat_of_zero_le hb
  have e : ((a' : Int) * 2 ^ i).toNat = 2 ^ i * a' := by
    have : ((a' : Int) * 2 ^ i) = ((2 ^ i * a' : Nat) : Int) := by push_cast; rw [Int.mul_comm]
    rw [this, Int.toNat_natCast]
  have hlt : b' < 2 ^ i := by exact_mod_cast hbi
  rw [e, Int.toNat_natCast, ← Nat.two_pow_add_eq_or_of_lt hlt]
  push_cast
  rw [Int.mul_comm]
theorem rd_nat (l : List Int) (n : Nat) (h : n < l.length) : rd l (n : Int) = l[n] := by
  unfold rd
  rw [Int.toNat_natCast, List.getD_eq_getElem?_getD, List.getElem?_eq_getElem h]; rfl

theorem get_l0 (l : List Int) (hl : IsBytes l) (h4 : l.length ≤ 4) (k : Nat) : ∀ (n : Nat) (acc : Int), n ≤ l.length → acc = getP (l.drop n) → Pfirst.journal_get.l0 (k + n + 1) l acc ((n : Int) - 1) = some (getP l) := by
  intro n
  induction n with
  | zero =>
    intro acc _ ha
    rw [Pfirst.journal_get.l0, if_neg (by decide), ha]; rfl
  | succ n ih =>
    intro acc hn ha
    have hb := hl l[n] (List.getElem_mem (by omega))
    have hd : l.drop n = l[n] :: l.drop (n + 1) := List.drop_eq_getElem_cons (by omega)
    have hr := getP_range (l.drop (n + 1)) (hl.drop _)
    have hlen : (l.drop (n + 1)).length ≤ 3 := by rw [List.length_drop]; omega
    have hp : (256 : Int) ^ (l.drop (n + 1)).length ≤ 16777216 := by
      generalize (l.drop (n + 1)).length = q at hlen ⊢
      have : q = 0 ∨ q = 1 ∨ q = 2 ∨ q = 3 := by omega
      rcases this with rfl | rfl | rfl | rfl <;> decide
    have e1 : ((n + 1 : Nat) : Int) - 1 = (n : Int) := by omega
    rw [e1, show k + (n + 1) + 1 = (k + n + 1) + 1 by omega, Pfirst.journal_get.l0, if_pos (by omega), if_pos (by omega), if_pos (by omega), rd_nat l n (by omega)]
    have e2 : acc * 256 % 4294967296 = acc * 2 ^ 8 := by rw [ha]; omega
    have e3 : l[n] % 4294967296 = l[n] := by omega
    rw [e2, e3, or_add 8 _ _ (by rw [ha]; omega) (by rw [ha]; omega) hb.1 (by omega) (by omega), w64 _ (by omega) (by omega)]
    refine ih _ (by omega) ?_
    rw [hd, getP, ha]
    omega
theorem get_f (l : List Int) (hl : IsBytes l) (h4 : l.length ≤ 4) (k : Nat) : Pfirst.journal_get.f (k + l.length + 1) l = some (getP l) := by
  unfold Pfirst.journal_get.f
  rw [w64 _ (by omega) (by omega)]
  exact get_l0 l hl h4 k l.length 0 (Nat.le_refl _) (by rw [List.drop_length]; rfl)
theorem get_f4 (l : List Int) (hl : IsBytes l) (h4 : l.length ≤ 4) (k : Nat) : Pfirst.journal_get.f (k + 5) l = some (getP l) := by
  have := get_f l hl h4 (k + 4 - l.length)
  rwa [show k + 4 - l.length + l.length + 1 = k + 5 by omega] at this

theorem sum_l0 (l : List Int) (hl : IsBytes l) (hn : (l.length : Int) ≤ 9223372036854775806) : ∀ (m i : Nat) (x y : Int), i + m = l.length → (0 ≤ x ∧ x < 65521) → (0 ≤ y ∧ y < 65521) →
    Pfirst.codec_Sum.l0 (m + 1) x y l (l.length : Int) (i : Int) = some ((sumXY (l.drop i) x y).2 * 65536 + (sumXY (l.drop i) x y).1) := by
  intro m
  induction m with
  | zero =>
    intro i x y hi hx hy
    rw [Pfirst.codec_Sum.l0, if_neg (by omega), List.drop_of_length_le (by omega)]
    have e : y * 65536 % 4294967296 = y * 2 ^ 16 := by omega
    rw [e, or_add 16 y x hy.1 (by omega) hx.1 (by omega) (by omega)]
    rfl
  | succ m ih =>
    intro i x y hi hx hy
    have hb := hl l[i] (List.getElem_mem (by omega))
    have hd : l.drop i = l[i] :: l.drop (i + 1) := List.drop_eq_getElem_cons (by omega)
    rw [Pfirst.codec_Sum.l0, if_pos (by omega), if_pos (by omega), if_pos (by omega), rd_nat l i (by omega), w64 _ (by omega) (by omega)]
    have e1 : l[i] % 4294967296 = l[i] := by omega
    have e2 : (x + l[i]) % 4294967296 % 65521 = (x + l[i]) % 65521 := by omega
    rw [e1, e2]
    have e3 : (y + (x + l[i]) % 65521) % 4294967296 % 65521 = (y + (x + l[i]) % 65521) % 65521 := by omega
    rw [e3]
    have := ih (i + 1) ((x + l[i]) % 65521) ((y + (x + l[i]) % 65521) % 65521) (by omega) (by omega) (by omega)
    rw [hd]
    simpa [sumXY] using this
theorem sum_f (l : List Int) (hl : IsBytes l) (hn : (l.length : Int) ≤ 9223372036854775806) : Pfirst.codec_Sum.f (l.length + 1) l = some (sumP l) := by
  have := sum_l0 l hl hn l.length 0 1 0 (by omega) (by decide) (by decide)
  simpa [Pfirst.codec_Sum.f, sumP] using this

theorem put_l0 (k : Nat) : ∀ (m i : Nat) (n : Int) (acc : List Int), acc.length = i → i + m ≤ 100 → Pput.journal_put.l0 (k + m + 1) n acc ((i + m : Nat) : Int) (i : Int) = some (acc ++ putP n m) := by
  intro m
  induction m with
  | zero =>
    intro i n acc ha h
    rw [Pput.journal_put.l0, if_neg (by omega), putP, List.append_nil]
  | succ m ih =>
    intro i n acc ha h
    rw [show k + (m + 1) + 1 = (k + m + 1) + 1 by omega, Pput.journal_put.l0, if_pos (by omega), if_pos (by omega), w64 _ (by omega) (by omega)]
    have := ih (i + 1) (n / 256) (acc ++ [n % 256]) (by simp [ha]) (by omega)
    rw [show ((i : Int) + 1) = ((i + 1 : Nat) : Int) by omega, show i + (m + 1) = (i + 1) + m by omega, this, putP]
    simp
theorem put_f (n : Int) (m : Nat) (h : m ≤ 100) : Pput.journal_put.f (m + 1) n (m : Int) = some (putP n m) := by
  have := put_l0 0 m 0 n [] rfl (by omega)
  simpa [Pput.journal_put.f] using this

theorem len_l0 (b : List Int) (hb : IsBytes b) (n : Nat) (hn : n ≤ 16) (k : Nat) : ∀ (m i : Nat) (l : List Int) (t : Int), i + m = n → l.length = i → 0 ≤ t → t ≤ 100 + i * 4096 →
    Pfirst.journal_lengths.l0 (k + m + 6) b l t (n : Int) (i : Int) = some (lenLoop b m i l t) := by
  intro m
  induction m with
  | zero =>
    intro i l t him hl h0 h1
    rw [Pfirst.journal_lengths.l0, if_neg (by omega), lenLoop]
  | succ m ih =>
    intro i l t him hl h0 h1
    have e1 : wrap64 (2 * (i : Int)) = 2 * i := w64 _ (by omega) (by omega)
    have e2 : wrap64 (1 + 2 * (i : Int)) = 1 + 2 * i := w64 _ (by omega) (by omega)
    have e3 : wrap64 (1 + 2 * (i : Int) + 2) = 1 + 2 * i + 2 := w64 _ (by omega) (by omega)
    rw [show k + (m + 1) + 6 = (k + m + 6) + 1 by omega, Pfirst.journal_lengths.l0, if_pos (by omega), e1, e2, e3, lenLoop]
    by_cases hs : b.length < 1 + 2 * i + 2
    · rw [if_pos hs, if_pos (by omega)]
    · rw [if_neg hs, if_neg (by omega), if_pos (by omega), if_pos (by omega), if_pos (by omega)]
      have ed : (b.take (1 + 2 * (i : Int) + 2).toNat).drop (1 + 2 * (i : Int)).toNat = (b.drop (1 + 2 * i)).take 2 := by
        rw [show (1 + 2 * (i : Int) + 2).toNat = 1 + 2 * i + 2 by omega, show (1 + 2 * (i : Int)).toNat = 1 + 2 * i by omega, List.drop_take]
        congr 1
        omega
      have hx : IsBytes ((b.drop (1 + 2 * i)).take 2) := (hb.drop _).take _
      have hl2 : ((b.drop (1 + 2 * i)).take 2).length = 2 := by rw [List.length_take, List.length_drop]; omega
      rw [ed, show k + m + 6 = (k + m + 1) + 5 by omega, get_f4 _ hx (by omega)]
      have hg := getP_range _ hx
      rw [hl2] at hg
      have hg2 : getP ((b.drop (1 + 2 * i)).take 2) < 65536 := hg.2
      simp only [Option.bind_some]
      generalize getP ((b.drop (1 + 2 * i)).take 2) = g at hg hg2 ⊢
      rw [w64 g (by omega) (by omega)]
      by_cases hk : 4096 < g
      · rw [if_pos (show g > 4096 from hk), if_pos hk]
      · rw [if_neg (show ¬ g > 4096 from hk), if_neg hk, if_pos (by omega), w64 (t + g) (by omega) (by omega), w64 ((i : Int) + 1) (by omega) (by omega)]
        have := ih (i + 1) (l ++ [g]) (t + g) (by omega) (by simp [hl]) (by omega) (by omega)
        rw [show k + m + 1 + 5 = k + m + 6 by omega, show (i : Int) + 1 = ((i + 1 : Nat) : Int) by omega]
        exact this
theorem lengths_f (b : List Int) (hb : IsBytes b) : Pfirst.journal_lengths.f 40 b = some (lengthsP b) := by
  unfold Pfirst.journal_lengths.f
  cases b with
  | nil => rfl
  | cons n b =>
    have hn := hb n (by simp)
    have e : wrap64 (rd (n :: b) 0) = n := w64 _ (by show _ ≤ n; omega) (by show n ≤ _; omega)
    rw [if_neg (by simp only [List.length_cons]; omega), if_pos (by simp only [List.length_cons]; omega), e, lengthsP]
    by_cases h1 : n < 1
    · rw [if_pos h1, if_pos (.inl h1), Pfirst.journal_lengths.j0, if_pos rfl]
    · rw [if_neg h1]
      by_cases h2 : 16 < n
      · rw [if_pos (.inr h2), Pfirst.journal_lengths.j0, if_pos (decide_eq_true h2)]
      · rw [if_neg (by omega), Pfirst.journal_lengths.j0, if_neg (by simp; omega), w64 (2 * n) (by omega) (by omega), w64 (1 + 2 * n) (by omega) (by omega)]
        obtain ⟨q, rfl⟩ := Int.eq_ofNat_of_zero_le hn.1
        have hq := len_l0 (((q : Nat) : Int) :: b) hb q (by omega) (33 - q) q 0 [] (1 + 2 * (q : Int)) (by omega) rfl (by omega) (by omega)
        rw [show 33 - q + q + 6 = 39 by omega] at hq
        exact hq

theorem reach_l0 (s : Int) (h0 : 1 ≤ s) (h1 : s ≤ 16777216) : ∀ (m : Nat) (n : Int), 1 ≤ m → 0 ≤ n → n ≤ 16777216 → 4 ≤ n + m → Preachable.journal_reachable.l0 m s n = some (reachLoop s m n) := by
  intro m
  induction m with
  | zero => intro n h; omega
  | succ m ih =>
    intro n _ hn hn2 h4
    rw [Preachable.journal_reachable.l0, reachLoop]
    by_cases h : n ≤ 65569
    · rw [if_pos h, if_pos h]
      by_cases h3 : 3 ≤ n
      · rw [if_pos (show n ≥ 3 from h3), if_pos h3]
      · rw [if_neg (show ¬ n ≥ 3 from h3), if_neg h3, w64 _ (by omega) (by omega)]
        by_cases hb : n + s ≤ 16777216
        · exact ih _ (by omega) (by omega) hb (by omega)
        · obtain ⟨q, rfl⟩ : ∃ q, m = q + 1 := ⟨m - 1, by omega⟩
          rw [Preachable.journal_reachable.l0, reachLoop, if_neg (by omega), if_neg (by omega)]
    · rw [if_neg h, if_neg h]
theorem reach_get (l : List Int) (k : Nat) : Preachable.journal_get.f k l = Pfirst.journal_get.f k l := by
  have : ∀ k a b, Preachable.journal_get.l0 k l a b = Pfirst.journal_get.l0 k l a b := by
    intro k
    induction k with
    | zero => intro a b; rfl
    | succ k ih => intro a b; simp only [Preachable.journal_get.l0, Pfirst.journal_get.l0, ih]
  unfold Preachable.journal_get.f Pfirst.journal_get.f
  exact this _ _ _
theorem shl_len (n : Nat) (h : n < 4) : shl .i64 1 (8 * (n : Int)) = 256 ^ n ∧ (1 : Int) ≤ 256 ^ n ∧ (256 : Int) ^ n ≤ 16777216 := by
  have hlen : n = 0 ∨ n = 1 ∨ n = 2 ∨ n = 3 := by omega
  rcases hlen with h | h | h | h <;> subst h <;> refine ⟨by simp [shl, IntKind.wrap, IntKind.bits], by omega, by omega⟩
theorem reach_f2 (l : List Int) (s g : Int) (h4 : l.length < 4) (hg : Pfirst.journal_get.f 10 l = some g) (hs : shl .i64 1 (8 * (l.length : Int)) = s) (s2 : 1 ≤ s) (s3 : s ≤ 16777216) (g0 : 0 ≤ g) (g1 : g < s) : Preachable.journal_reachable.f 10 l = some (reachLoop s 10 g) := by
  have e0 : wrap64 (8 * (l.length : Int)) = 8 * l.length := w64 _ (by omega) (by omega)
  have e1 : wrap64 g = g := w64 _ (by omega) (by omega)
  unfold Preachable.journal_reachable.f
  rw [reach_get, hg, Option.bind_some, e0, if_pos (show (0 : Int) ≤ 8 * l.length by omega), hs, e1]
  exact reach_l0 s s2 s3 10 g (by decide) g0 (by omega) (by omega)
theorem reach_f (l : List Int) (hl : IsBytes l) (h4 : l.length < 4) : Preachable.journal_reachable.f 10 l = some (reachP l) := by
  obtain ⟨s1, s2, s3⟩ := shl_len l.length h4
  have hr := getP_range l hl
  have hg := get_f4 l hl (by omega) 5
  exact reach_f2 l _ _ h4 hg s1 s2 s3 hr.1 hr.2
end Go.Proofs.Ytnakolpaabpifaa
