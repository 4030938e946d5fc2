/- Frames: which blocks of memory a call may have changed; the disk as a value (room, bytes, durable, operations, power). -/
import Derived.Test.YtnakolpaabpifaaProg
import Derived.WalkKit
import Derived.WalkSpells
import Derived.WalkLawsBesides
import Derived.Test.YtnakolpaabpifaaWWords
set_option linter.unusedVariables false
namespace Go.Proofs.Ytnakolpaabpifaa
open Go.RowKit Go.Proofs.YtnakolpaabpifaaW.PrintWords

theorem hid {p : Prop} (h : p) : Hid p := h

/-- Of what was there, only blocks of S may have turned. -/
structure Fr (S : Nat → Prop) (w w' : World) : Prop where
  os : w'.os = w.os
  tape : w'.tape = w.tape
  output : w'.output = w.output
  size : w.heap.size ≤ w'.heap.size
  block : ∀ k, k < w.heap.size → ¬ S k → w'.heap[k]? = w.heap[k]?

theorem Fr.refl (S : Nat → Prop) (w : World) : Fr S w w := ⟨rfl, rfl, rfl, Nat.le_refl _, fun _ _ _ => rfl⟩
theorem Fr.trans {S S1 : Nat → Prop} {w w1 w2 : World} (h : Fr S w w1) (k : Fr S1 w1 w2) (hs : ∀ k, S1 k → S k ∨ w.heap.size ≤ k) : Fr S w w2 :=
  ⟨k.os.trans h.os, k.tape.trans h.tape, k.output.trans h.output, Nat.le_trans h.size k.size,
   fun i hi hn => (k.block i (Nat.lt_of_lt_of_le hi h.size) (fun hk => by rcases hs i hk with h' | h'; exact hn h'; omega)).trans (h.block i hi hn)⟩
theorem Fr.mono {S S1 : Nat → Prop} {w w1 : World} (h : Fr S w w1) (hs : ∀ k, S k → S1 k) : Fr S1 w w1 := ⟨h.os, h.tape, h.output, h.size, fun i hi hn => h.block i hi (fun hk => hn (hs i hk))⟩
theorem Fr.alloc {S : Nat → Prop} {w w1 : World} (h : Fr S w w1) (o : Obj) : Fr S w (w1.alloc o) :=
  ⟨h.os, h.tape, h.output, by have := h.size; simp; omega, fun i hi hn => (Below.heap_alloc _ _ _ (by have := h.size; omega)).trans (h.block i hi hn)⟩
theorem Fr.drewN {S : Nat → Prop} {w w1 : World} (h : Fr S w w1) (n : Nat) : Fr S w (w1.drewN n) := ⟨h.os, h.tape, h.output, h.size, h.block⟩
theorem Fr.drew {S : Nat → Prop} {w w1 : World} (h : Fr S w w1) : Fr S w w1.drew := ⟨h.os, h.tape, h.output, h.size, h.block⟩
theorem Fr.set {S : Nat → Prop} {w w1 : World} (h : Fr S w w1) {p : Addr} (hp : S p.block) (u : Value) : Fr S w (w1.setCell p u) :=
  ⟨h.os, h.tape, h.output, by have := h.size; simpa [World.setCell] using this, fun i hi hn => (Below.heap_setCell _ _ _ i (fun e => hn (by rw [e]; exact hp))).trans (h.block i hi hn)⟩
theorem Fr.setNew {S : Nat → Prop} {w w1 : World} (h : Fr S w w1) {p : Addr} (hp : w.heap.size ≤ p.block) (u : Value) : Fr S w (w1.setCell p u) :=
  ⟨h.os, h.tape, h.output, by have := h.size; simpa [World.setCell] using this, fun i hi hn => (Below.heap_setCell _ _ _ _ (by omega)).trans (h.block i hi hn)⟩
theorem Fr.grown {S : Nat → Prop} {w w1 w2 : World} {row : Option Nat} (h : Fr S w w1) (hg : w1.grownBy w2 row) (hr : ∀ k, row = some k → S k ∨ w.heap.size ≤ k) : Fr S w w2 :=
  ⟨hg.os.trans h.os, hg.tape.trans h.tape, hg.output.trans h.output, Nat.le_trans h.size hg.size,
   fun i hi hn => (hg.block i (Nat.lt_of_lt_of_le hi h.size) (fun e => by rcases hr i e.symm with h' | h'; exact hn h'; omega)).trans (h.block i hi hn)⟩
theorem Fr.below {S : Nat → Prop} {B : Nat} {w w1 : World} (h : Fr S w w1) (hB : B ≤ w.heap.size) (hs : ∀ k, S k → B ≤ k) : Below B w w1 :=
  ⟨h.os, h.tape, h.output, h.size, fun i hi => h.block i (by omega) (fun hk => by have := hs i hk; omega)⟩
theorem Fr.of_below {S : Nat → Prop} {w w1 : World} (h : Below w.heap.size w w1) : Fr S w w1 := ⟨h.os, h.tape, h.output, h.size, fun i hi _ => h.block i hi⟩
theorem Fr.cell {S : Nat → Prop} {w w1 : World} (h : Fr S w w1) {a : Addr} {v : Value} (hc : w.cell? a = some v) (hn : ¬ S a.block) : w1.cell? a = some v :=
  (World.cell?_of_block (h.block a.block (World.block_lt_of_cell? w a hc) hn)).trans hc
theorem Fr.blk {S : Nat → Prop} {w w1 : World} (h : Fr S w w1) {g : Nat} {o : Obj} (hc : w.heap[g]? = some o) (hn : ¬ S g) : w1.heap[g]? = some o :=
  (h.block g (blk_lt hc) hn).trans hc

/-- S with whatever is new. -/
def Ext (S : Nat → Prop) (w : World) (k : Nat) : Prop := S k ∨ w.heap.size ≤ k

/-- v owns the bytes bs, in a block of S. -/
def OwnB (w : World) (S : Nat → Prop) (v : Value) (bs : List Int) : Prop :=
  w.ownsRow 0 5 1 v bs.length (nums .u8 bs) ∧ ∀ k, v.ownBlock = some k → S k
theorem OwnB.mono {w : World} {S S1 : Nat → Prop} {v : Value} {bs : List Int} (h : OwnB w S v bs) (hs : ∀ k, S k → S1 k) : OwnB w S1 v bs := ⟨h.1, fun k hk => hs k (h.2 k hk)⟩
theorem OwnB.bound {w : World} {S : Nat → Prop} {v : Value} {bs : List Int} (h : OwnB w S v bs) : OwnB w (fun k => S k ∧ k < w.heap.size) v bs := ⟨h.1, fun k hk => ⟨h.2 k hk, own_lt h.1 k hk⟩⟩
theorem OwnB.move {w w1 : World} {S : Nat → Prop} {v : Value} {bs : List Int} (h : OwnB w S v bs) (hm : ∀ k, S k → k < w.heap.size → w1.heap[k]? = w.heap[k]?) : OwnB w1 S v bs :=
  ⟨own_move h.1 (fun k hk => hm k (h.2 k hk) (own_lt h.1 k hk)), h.2⟩
theorem OwnB.fr {w w1 : World} {S S1 : Nat → Prop} {v : Value} {bs : List Int} (h : OwnB w S v bs) (hf : Fr S1 w w1) (hd : ∀ k, S k → ¬ S1 k) : OwnB w1 S v bs := h.move fun k hk hl => hf.block k hl (hd k hk)
theorem OwnB.nil (w : World) (S : Nat → Prop) : OwnB w S (.slice none 0 0) [] := ⟨own_nil _ _ _ _, fun k hk => by simp [Value.ownBlock] at hk⟩
theorem OwnB.reads {w : World} {S : Nat → Prop} {v : Value} {bs : List Int} (h : OwnB w S v bs) : ∃ A c, v = .slice A bs.length c ∧ bs.length ≤ c ∧ ReadsInt w .u8 A bs.length bs := by
  obtain ⟨A, c, rfl, hr⟩ := own_reads h.1
  exact ⟨A, c, rfl, own_le h.1, hr⟩

theorem OwnB.set {w : World} {S : Nat → Prop} {v : Value} {bs : List Int} (h : OwnB w S v bs) {g t : Nat} {cs : Array Value} (hb : w.heap[g]? = some (.cells cs t (0, 0))) (ht : 5 ≠ t) (i : Nat) (u : Value) : OwnB (w.setCell ⟨g, i, none⟩ u) S v bs :=
  ⟨own_setCell h.1 (own_ne h.1 hb ht) u, h.2⟩

theorem info5 : (Try.prog.info? 5).map (fun i => (i.zero, i.size, i.bytes)) = some (some (.int .u8 0), 1, 1) := by kernel_rfl

theorem OwnB.ne {w : World} {S : Nat → Prop} {v : Value} {bs : List Int} (h : OwnB w S v bs) {g t : Nat} {cs : Array Value} (hb : w.heap[g]? = some (.cells cs t (0, 0))) (ht : 5 ≠ t) : ¬ v.ownBlock = some g := fun e => own_ne h.1 hb ht e.symm
/-- append(v, ys...) on bytes. -/
theorem wp_append_bytes {ops : Array Oper} {rest : List Oper} {o : Oper} {a : Act} {Q : Exit → Act → World → Prop} {W : World} (s x : Operand) (hgd : o.guard = none)
    (ho : o.op = .call { callee := .builtin .append, args := #[s, x], argTypes := #[30, 30] })
    (S : Nat → Prop) (v : Value) (xs ys : List Int) (A : Option Addr) (m c : Nat) (hs : a.eval s = v) (hx : a.eval x = .slice A m c)
    (HO : OwnB W S v xs) (HR : ReadsInt W .u8 A m ys) (hl : xs.length + m ≤ 140737488355328)
    (h : ∀ A1 c1 w1, OwnB w1 (Ext S W) (.slice A1 (xs.length + m) c1) (xs ++ ys) → Fr (fun k => v.ownBlock = some k) W w1 → wpList Try.prog ops Q rest (a.put o.dst (.slice A1 (xs.length + m) c1)) w1) :
    wpList Try.prog ops Q (o :: rest) a W := by
  refine print_append_row (w0 := W) 0 hgd s x 30 5 .u8 1 ho Try.underlying30 info5 (by decide) v xs ys A m c hs hx HO.1 HR (Below.refl _ _) (Nat.zero_le _) (by omega) fun v1 w1 hown _ hg hat => ?_
  have ho1 : OwnB w1 (Ext S W) v1 (xs ++ ys) := ⟨hown, fun k hk => by
      rcases hat with hat | ⟨b, hb, hlt⟩
      · exact .inl (HO.2 k (hat ▸ hk))
      · rw [hb] at hk; cases hk; exact .inr hlt⟩
  obtain ⟨A1, c1, rfl, _, _⟩ := ho1.reads
  have e : (xs ++ ys).length = xs.length + m := by rw [List.length_append, HR.1]
  rw [e] at ho1 ⊢
  exact h A1 c1 w1 ho1 ((Fr.refl _ W).grown hg fun k hk => .inl hk)

/-- The state of a disk. -/
structure DS where
  room : Int
  b : List Int
  dur : Int
  ops : Int
  cut : Bool
  left : Int
  off : Bool

/-- What every disk keeps. -/
structure DS.ok (D : DS) : Prop where
  r0 : 0 ≤ D.room
  r1 : D.room ≤ 262144
  l : (D.b.length : Int) ≤ D.room
  d0 : 0 ≤ D.dur
  d1 : D.dur ≤ D.b.length
  bytes : ∀ x ∈ D.b, 0 ≤ x ∧ x < 256

/-- The disk at block g. -/
def DiskAt (w : World) (S : Nat → Prop) (g : Nat) (D : DS) : Prop :=
  ∃ v, w.heap[g]? = some (.cells #[.int .i64 D.room, v, .int .i64 D.dur, .int .i64 D.ops, .bool D.cut, .int .i64 D.left, .bool D.off] 49 (0, 0)) ∧ OwnB w S v D.b ∧ S g ∧ D.ok
theorem DiskAt.mono {w : World} {S S1 : Nat → Prop} {g : Nat} {D : DS} (h : DiskAt w S g D) (hs : ∀ k, S k → S1 k) : DiskAt w S1 g D := by
  obtain ⟨v, h1, h2, h3, h4⟩ := h
  exact ⟨v, h1, h2.mono hs, hs _ h3, h4⟩
theorem DiskAt.bound {w : World} {S : Nat → Prop} {g : Nat} {D : DS} (h : DiskAt w S g D) : DiskAt w (fun k => S k ∧ k < w.heap.size) g D := by
  obtain ⟨v, h1, h2, h3, h4⟩ := h
  exact ⟨v, h1, h2.bound, ⟨h3, blk_lt h1⟩, h4⟩
theorem DiskAt.move {w w1 : World} {S : Nat → Prop} {g : Nat} {D : DS} (h : DiskAt w S g D) (hm : ∀ k, S k → k < w.heap.size → w1.heap[k]? = w.heap[k]?) : DiskAt w1 S g D := by
  obtain ⟨v, h1, h2, h3, h4⟩ := h
  exact ⟨v, (hm g h3 (blk_lt h1)).trans h1, h2.move hm, h3, h4⟩
theorem DiskAt.fr {w w1 : World} {S S1 : Nat → Prop} {g : Nat} {D : DS} (h : DiskAt w S g D) (hf : Fr S1 w w1) (hd : ∀ k, S k → ¬ S1 k) : DiskAt w1 S g D := h.move fun k hk hl => hf.block k hl (hd k hk)
theorem DiskAt.ok {w : World} {S : Nat → Prop} {g : Nat} {D : DS} (h : DiskAt w S g D) : D.ok := by
  obtain ⟨v, h1, h2, h3, h4⟩ := h
  exact h4
theorem DiskAt.lt {w : World} {S : Nat → Prop} {g : Nat} {D : DS} (h : DiskAt w S g D) : g < w.heap.size := by
  obtain ⟨v, h1, h2, h3, h4⟩ := h
  exact blk_lt h1

theorem DiskAt.mk {w : World} {S : Nat → Prop} {g : Nat} (D : DS) (v : Value) {cs : Array Value} (h : w.heap[g]? = some (.cells cs 49 (0, 0))) (hc : cs = #[.int .i64 D.room, v, .int .i64 D.dur, .int .i64 D.ops, .bool D.cut, .int .i64 D.left, .bool D.off]) (ho : OwnB w S v D.b) (hs : S g) (hk : D.ok) : DiskAt w S g D :=
  ⟨v, by rw [h, hc], ho, hs, hk⟩

/-- One operation is counted; whether it takes place. -/
def DS.begin (D : DS) : Bool × DS :=
  if D.off then (false, { D with ops := wrap64 (D.ops + 1) })
  else if D.cut then (true, { D with ops := wrap64 (D.ops + 1), left := wrap64 (D.left - 1), off := decide (wrap64 (D.left - 1) < 1) })
  else (true, { D with ops := wrap64 (D.ops + 1) })
theorem DS.begin_same (D : DS) : D.begin.2.room = D.room ∧ D.begin.2.b = D.b ∧ D.begin.2.dur = D.dur := by
  unfold DS.begin
  split
  · exact ⟨rfl, rfl, rfl⟩
  · split <;> exact ⟨rfl, rfl, rfl⟩
theorem DS.ok.begin {D : DS} (h : D.ok) : D.begin.2.ok := by
  obtain ⟨e1, e2, e3⟩ := D.begin_same
  constructor <;> simp only [e1, e2, e3]
  · exact h.r0
  · exact h.r1
  · exact h.l
  · exact h.d0
  · exact h.d1
  · exact h.bytes
/-- Append. -/
def DS.append (D : DS) (bs : List Int) : Int × DS :=
  if D.begin.1 = false then (42, D.begin.2)
  else if D.room - D.b.length < bs.length then (43, D.begin.2)
  else (0, { D.begin.2 with b := D.b ++ bs })
/-- Sync. -/
def DS.sync (D : DS) : Int × DS :=
  if D.begin.1 = false then (42, D.begin.2) else (0, { D.begin.2 with dur := D.b.length })
/-- Truncate. -/
def DS.truncate (D : DS) (n : Int) : Int × DS :=
  if D.begin.1 = false then (42, D.begin.2)
  else if n < 0 ∨ (D.b.length : Int) < n then (1, D.begin.2)
  else (0, { D.begin.2 with b := D.b.take n.toNat, dur := min D.dur n })
/-- Cut. -/
def DS.cutAt (D : DS) (n : Int) : DS :=
  if D.off then D else { D with cut := true, left := n, off := decide (n < 1) }
/-- The new disk. -/
def DS.new (room : Int) : DS := ⟨room, [], 0, 0, false, 0, false⟩
/-- How many bytes that were not durable are left in a crash. -/
def DS.keeps (D : DS) (keep : Int) : Int :=
  let m := D.b.length - D.dur + 1
  if keep.tmod m < 0 then keep.tmod m + m else keep.tmod m
def DS.survive (D : DS) (keep flip : Int) : List Int :=
  let k := D.keeps keep
  let l := D.b.take (D.dur + k).toNat
  if 0 < k ∧ flip.tmod 2 ≠ 0 then l.set (l.length - 1) (Go.bits .xor .u8 (rd l (l.length - 1)) 85) else l
/-- Crash. -/
def DS.crash (D : DS) (keep flip : Int) : DS := ⟨D.room, D.survive keep flip, (D.survive keep flip).length, 0, false, 0, false⟩
end Go.Proofs.Ytnakolpaabpifaa
