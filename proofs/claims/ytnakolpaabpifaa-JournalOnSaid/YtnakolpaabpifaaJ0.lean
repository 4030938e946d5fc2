/- The journal's format as plain functions on lists of bytes, and what holds of it. -/
import Derived.Test.YtnakolpaabpifaaA3
set_option linter.unusedVariables false
set_option linter.unusedSimpArgs false
namespace Go.Proofs.Ytnakolpaabpifaa
open Go.RowKit Go.Proofs.YtnakolpaabpifaaW.PrintWords

def IsBytes (l : List Int) : Prop := ∀ x ∈ l, 0 ≤ x ∧ x < 256
theorem IsBytes.append {a b : List Int} (h : IsBytes a) (k : IsBytes b) : IsBytes (a ++ b) := fun x hx => by
  rcases List.mem_append.1 hx with hx | hx
  · exact h x hx
  · exact k x hx
theorem IsBytes.left {a b : List Int} (h : IsBytes (a ++ b)) : IsBytes a := fun x hx => h x (List.mem_append_left _ hx)
theorem IsBytes.right {a b : List Int} (h : IsBytes (a ++ b)) : IsBytes b := fun x hx => h x (List.mem_append_right _ hx)
theorem IsBytes.take {a : List Int} (h : IsBytes a) (n : Nat) : IsBytes (a.take n) := fun x hx => h x (List.mem_of_mem_take hx)
theorem IsBytes.drop {a : List Int} (h : IsBytes a) (n : Nat) : IsBytes (a.drop n) := fun x hx => h x (List.mem_of_mem_drop hx)
theorem IsBytes.nil : IsBytes [] := fun x hx => by simp at hx

/-- The number in bytes, the least significant one first. -/
def getP : List Int → Int
  | [] => 0
  | x :: l => x + 256 * getP l
/-- The bytes of a number. -/
def putP : Int → Nat → List Int
  | _, 0 => []
  | n, k + 1 => n % 256 :: putP (n / 256) k
theorem putP_length (n : Int) (k : Nat) : (putP n k).length = k := by
  induction k generalizing n with
  | zero => rfl
  | succ k ih => simp [putP, ih]
theorem putP_bytes (n : Int) (k : Nat) : IsBytes (putP n k) := by
  induction k generalizing n with
  | zero => exact IsBytes.nil
  | succ k ih =>
    intro x hx
    simp only [putP, List.mem_cons] at hx
    rcases hx with rfl | hx
    · omega
    · exact ih _ x hx
theorem get_put (n : Int) (k : Nat) (h0 : 0 ≤ n) (h1 : n < 256 ^ k) : getP (putP n k) = n := by
  induction k generalizing n with
  | zero => simp at h1; simp [putP, getP]; omega
  | succ k ih =>
    have h2 : n / 256 < 256 ^ k := by
      rw [Int.pow_succ] at h1
      exact Int.ediv_lt_of_lt_mul (by decide) h1
    simp only [putP, getP]
    rw [ih (n / 256) (by omega) h2]
    omega
theorem getP_range (l : List Int) (h : IsBytes l) : 0 ≤ getP l ∧ getP l < 256 ^ l.length := by
  induction l with
  | nil => simp [getP]
  | cons x l ih =>
    have hx := h x (by simp)
    have hl := ih (fun y hy => h y (List.mem_cons_of_mem _ hy))
    simp only [getP, List.length_cons, Int.pow_succ]
    omega
theorem getP_append (a b : List Int) : getP (a ++ b) = getP a + 256 ^ a.length * getP b := by
  induction a with
  | nil => simp [getP]
  | cons x a ih =>
    simp only [List.cons_append, getP, ih, List.length_cons, Int.pow_succ]
    rw [Int.mul_add, ← Int.mul_assoc, Int.mul_comm 256 (256 ^ a.length)]
    omega

/-- The checksum: two sums. -/
def sumXY : List Int → Int → Int → Int × Int
  | [], x, y => (x, y)
  | c :: l, x, y => sumXY l ((x + c) % 65521) ((y + (x + c) % 65521) % 65521)
def sumP (l : List Int) : Int := (sumXY l 1 0).2 * 65536 + (sumXY l 1 0).1
theorem sumXY_range (l : List Int) (x y : Int) (hx : 0 ≤ x ∧ x < 65521) (hy : 0 ≤ y ∧ y < 65521) : (0 ≤ (sumXY l x y).1 ∧ (sumXY l x y).1 < 65521) ∧ (0 ≤ (sumXY l x y).2 ∧ (sumXY l x y).2 < 65521) := by
  induction l generalizing x y with
  | nil => exact ⟨hx, hy⟩
  | cons c l ih => exact ih _ _ (by omega) (by omega)
theorem sumP_range (l : List Int) : 0 ≤ sumP l ∧ sumP l < 4294967296 := by
  have := sumXY_range l 1 0 (by decide) (by decide)
  unfold sumP
  omega
theorem sumXY_append (a b : List Int) (x y : Int) : sumXY (a ++ b) x y = sumXY b (sumXY a x y).1 (sumXY a x y).2 := by
  induction a generalizing x y with
  | nil => rfl
  | cons c a ih => exact ih _ _
/-- Another last byte: another sum. -/
theorem sumP_last (a : List Int) (c d : Int) (hc : 0 ≤ c ∧ c < 256) (hd : 0 ≤ d ∧ d < 256) (hne : c ≠ d) : sumP (a ++ [c]) ≠ sumP (a ++ [d]) := by
  intro h
  have hr := sumXY_range a 1 0 (by decide) (by decide)
  unfold sumP at h
  rw [sumXY_append, sumXY_append] at h
  simp only [sumXY] at h
  omega

/-- The body and the frame of records. -/
def lensP (rs : List (List Int)) : List Int := rs.flatMap fun r => putP r.length 2
def bodyP (rs : List (List Int)) : List Int := (rs.length : Int) % 256 :: (lensP rs ++ rs.flatten)
def frameP (rs : List (List Int)) : List Int :=
  putP (bodyP rs).length 4 ++ (putP (sumP (putP (bodyP rs).length 4 ++ bodyP rs)) 4 ++ bodyP rs)

/-- The lengths of a body, as far as b contains them. -/
def lenLoop (b : List Int) : Nat → Nat → List Int → Int → List Int × Int × Bool × Bool
  | 0, _, l, t => (l, t, true, true)
  | m + 1, i, l, t =>
    if b.length < 1 + 2 * i + 2 then (l, t, false, true)
    else if 4096 < getP ((b.drop (1 + 2 * i)).take 2) then ([], 0, false, false)
    else lenLoop b m (i + 1) (l ++ [getP ((b.drop (1 + 2 * i)).take 2)]) (t + getP ((b.drop (1 + 2 * i)).take 2))
def lengthsP (b : List Int) : List Int × Int × Bool × Bool :=
  match b with
  | [] => ([], 0, false, true)
  | n :: _ => if n < 1 ∨ 16 < n then ([], 0, false, false) else lenLoop b n.toNat 0 [] (1 + 2 * n)

/-- Records cut out of a body by their lengths. -/
def cutP : List Int → List Int → List (List Int)
  | _, [] => []
  | b, k :: l => b.take k.toNat :: cutP (b.drop k.toNat) l

/-- The first frame. -/
def firstP (b : List Int) : List (List Int) × Int × Bool :=
  if b.length < 8 then ([], 0, false)
  else if 65569 < getP (b.take 4) ∨ (b.length : Int) < 8 + getP (b.take 4) then ([], 0, false)
  else
    let body := (b.drop 8).take (getP (b.take 4)).toNat
    let r := lengthsP body
    if r.2.2.2 = true ∧ r.2.2.1 = true ∧ r.2.1 = getP (b.take 4) ∧ sumP (b.take 4 ++ body) = getP ((b.drop 4).take 4) then
      (cutP (body.drop (1 + 2 * r.1.length)) r.1, 8 + getP (b.take 4), true)
    else ([], 0, false)

/-- Fewer than four bytes: can they begin the length of a body? -/
def reachLoop (step : Int) : Nat → Int → Bool
  | 0, _ => false
  | k + 1, n => if n ≤ 65569 then (if 3 ≤ n then true else reachLoop step k (n + step)) else false
def reachP (b : List Int) : Bool := reachLoop (256 ^ b.length) 10 (getP b)

/-- A proper beginning of a frame. -/
def beginsP (b : List Int) : Bool :=
  if b.length < 4 then reachP b
  else
    let n := getP (b.take 4)
    if n < 3 ∨ 65569 < n then false
    else if b.length ≤ 8 then true
    else if n ≤ ((b.drop 8).length : Int) then false
    else
      let r := lengthsP (b.drop 8)
      if r.2.2.2 = false then false
      else if r.2.2.1 = true then decide (r.2.1 = n)
      else decide (r.2.1 ≤ n ∧ n ≤ r.2.1 + (rd (b.drop 8) 0 - r.1.length) * 4096)

/-- The last byte as a crash may have left it. -/
def flipP (b : List Int) : List Int := b.set (b.length - 1) (Go.bits .xor .u8 (rd b (b.length - 1)) 85)
/-- What a crash can have left behind the last frame. -/
def tornP (b : List Int) : Bool :=
  beginsP b || (beginsP (flipP b) || ((firstP (flipP b)).2.2 && decide ((firstP (flipP b)).2.1 = b.length)))
end Go.Proofs.Ytnakolpaabpifaa
