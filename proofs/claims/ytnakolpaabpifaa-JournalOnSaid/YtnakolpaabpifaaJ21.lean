/- What a crash and an Open make of a disk with whole frames and perhaps one more. -/
import Derived.Test.YtnakolpaabpifaaJ19
set_option linter.unusedVariables false
set_option linter.unusedSimpArgs false
namespace Go.Proofs.Ytnakolpaabpifaa
open Go.RowKit Go.Proofs.YtnakolpaabpifaaW.PrintWords Go.Proofs.YtnakolpaabpifaaW.PrintLast

/-- What may stand behind the whole frames. -/
def Tail (last : List (List Int)) (t : List Int) : Prop := t = [] ∨ (VR last ∧ (t = frameP last ∨ TornOf last t))

/-- While the journal runs. -/
structure Run (D : DS) (fs : List (List (List Int))) : Prop where
  room : D.room = 20000
  bs : D.b = framesP fs
  dur : D.dur = (framesP fs).length
/-- Where it may have ended. -/
structure Pre (D : DS) (fs : List (List (List Int))) (last : List (List Int)) : Prop where
  room : D.room = 20000
  bs : D.b = framesP fs ∨ (VR last ∧ D.b = framesP fs ++ frameP last)
  dur : D.dur = (framesP fs).length
/-- Behind a crash. -/
structure Mess (D : DS) (fs : List (List (List Int))) (last : List (List Int)) : Prop where
  room : D.room = 20000
  bs : ∃ t, D.b = framesP fs ++ t ∧ Tail last t
  dur : D.dur = D.b.length

theorem Run.new : Run (DS.new 20000) [] := ⟨rfl, rfl, rfl⟩
theorem Run.of_quiet {D : DS} {fs : List (List (List Int))} (h : Quiet D 20000 (framesP fs)) : Run D fs := ⟨h.hroom, h.hbs, h.hdur⟩
theorem Run.pre {D : DS} {fs : List (List (List Int))} (h : Run D fs) (last : List (List Int)) : Pre D fs last := ⟨h.room, .inl h.bs, h.dur⟩
theorem Run.cut {D : DS} {fs : List (List (List Int))} (h : Run D fs) (n : Int) : Run (D.cutAt n) fs := by
  unfold DS.cutAt
  split
  · exact h
  · exact ⟨h.room, h.bs, h.dur⟩
theorem Mess.cut {D : DS} {fs : List (List (List Int))} {last : List (List Int)} (h : Mess D fs last) (n : Int) : Mess (D.cutAt n) fs last := by
  unfold DS.cutAt
  split
  · exact h
  · exact ⟨h.room, h.bs, h.dur⟩

theorem Run.jappend {D : DS} {fs : List (List (List Int))} {rs : List (List Int)} (h : Run D fs) (hv : VR rs) (hs : (framesP fs).length + (frameP rs).length ≤ 20000) :
    ∃ x dd D', D.jappend (frameP rs) = (x, dd, D') ∧ ((x = 0 ∧ dd = false ∧ Run D' (fs ++ [rs])) ∨ (x = 42 ∧ dd = true ∧ Pre D' fs rs)) := by
  obtain ⟨e1, e2, e3⟩ := D.begin_same
  have hfr : framesP (fs ++ [rs]) = framesP fs ++ frameP rs := by unfold framesP; rw [List.flatMap_append]; simp
  unfold DS.jappend
  by_cases hb : D.begin.1 = false
  · have e : D.append (frameP rs) = (42, D.begin.2) := by unfold DS.append; rw [if_pos hb]
    rw [e]
    refine ⟨42, true, D.begin.2, rfl, .inr ⟨rfl, rfl, e1.trans h.room, .inl (e2.trans h.bs), e3.trans h.dur⟩⟩
  · have e : D.append (frameP rs) = (0, { D.begin.2 with b := D.b ++ frameP rs }) := by
      unfold DS.append
      rw [if_neg hb, if_neg (by rw [h.room, h.bs]; omega)]
    rw [e]
    simp only
    rw [if_neg (by decide), if_neg (by decide)]
    obtain ⟨f1, f2, f3⟩ := ({ D.begin.2 with b := D.b ++ frameP rs } : DS).begin_same
    simp only at f1 f2 f3
    by_cases hb2 : ({ D.begin.2 with b := D.b ++ frameP rs } : DS).begin.1 = false
    · have es : ({ D.begin.2 with b := D.b ++ frameP rs } : DS).sync = (42, ({ D.begin.2 with b := D.b ++ frameP rs } : DS).begin.2) := by unfold DS.sync; rw [if_pos hb2]
      rw [es]
      exact ⟨42, true, _, rfl, .inr ⟨rfl, rfl, f1.trans (e1.trans h.room), .inr ⟨hv, by rw [f2, h.bs]⟩, f3.trans (e3.trans h.dur)⟩⟩
    · have es : ({ D.begin.2 with b := D.b ++ frameP rs } : DS).sync = (0, { ({ D.begin.2 with b := D.b ++ frameP rs } : DS).begin.2 with dur := ((D.b ++ frameP rs).length : Nat) }) := by unfold DS.sync; rw [if_neg hb2]
      rw [es]
      refine ⟨0, false, _, rfl, .inl ⟨rfl, rfl, f1.trans (e1.trans h.room), ?_, ?_⟩⟩
      · rw [hfr, ← h.bs]; exact f2
      · show ((D.b ++ frameP rs).length : Int) = _
        rw [hfr, h.bs]

theorem keeps_in {D : DS} (h : D.ok) (keep : Int) : 0 ≤ D.keeps keep ∧ D.keeps keep ≤ D.b.length - D.dur := by
  have h1 := h.d1
  have hm : 0 < (D.b.length : Int) - D.dur + 1 := by omega
  have h2 := Int.tmod_lt_of_pos keep hm
  have h3 := Int.lt_tmod_of_pos keep hm
  unfold DS.keeps
  simp only
  split <;> omega
/-- What survives of the bytes behind the durable ones. -/
theorem survive_of {D : DS} (h : D.ok) {L t : List Int} (hb : D.b = L ++ t) (hd : D.dur = L.length) (keep flip : Int) :
    ∃ k, k ≤ t.length ∧ (D.survive keep flip = L ++ t.take k ∨ (0 < k ∧ D.survive keep flip = L ++ flipP (t.take k))) := by
  obtain ⟨h3, h4⟩ := keeps_in h keep
  rw [hb, hd, List.length_append] at h4
  have e : D.b.take (D.dur + D.keeps keep).toNat = L ++ t.take (D.keeps keep).toNat := by
    rw [hb, hd, show ((L.length : Int) + D.keeps keep).toNat = L.length + (D.keeps keep).toNat from by omega, List.take_length_add_append]
  refine ⟨(D.keeps keep).toNat, by omega, ?_⟩
  unfold DS.survive
  simp only [e]
  split
  · rename_i hc
    refine .inr ⟨by omega, ?_⟩
    show flipP (L ++ t.take (D.keeps keep).toNat) = _
    refine flip_append _ _ fun e0 => ?_
    have := congrArg List.length e0
    rw [List.length_take, List.length_nil] at this
    omega
  · exact .inl rfl
theorem tail_of (rs : List (List Int)) (hv : VR rs) (k : Nat) (hk : k ≤ (frameP rs).length) : Tail rs ((frameP rs).take k) ∧ (0 < k → Tail rs (flipP ((frameP rs).take k))) := by
  by_cases h : k = (frameP rs).length
  · rw [h, List.take_length]
    exact ⟨.inr ⟨hv, .inl rfl⟩, fun _ => .inr ⟨hv, .inr (.inr rfl)⟩⟩
  · refine ⟨?_, fun h0 => .inr ⟨hv, .inr (.inl ⟨k, h0, by omega, .inr rfl⟩)⟩⟩
    rcases Nat.eq_zero_or_pos k with h0 | h0
    · subst h0; exact .inl rfl
    · exact .inr ⟨hv, .inr (.inl ⟨k, h0, by omega, .inl rfl⟩)⟩
theorem Pre.crash {D : DS} {fs : List (List (List Int))} {last : List (List Int)} (h : Pre D fs last) (hk : D.ok) (keep flip : Int) : Mess (D.crash keep flip) fs last := by
  rcases h.bs with hb | ⟨hv, hb⟩
  · obtain ⟨k, h1, h2⟩ := survive_of hk (L := framesP fs) (t := []) (by rw [hb, List.append_nil]) h.dur keep flip
    obtain rfl : k = 0 := by simpa using h1
    refine ⟨h.room, ⟨[], ?_, .inl rfl⟩, rfl⟩
    rcases h2 with h2 | h2
    · exact h2
    · exact absurd h2.1 (by decide)
  · obtain ⟨k, h1, h2⟩ := survive_of hk hb h.dur keep flip
    obtain ⟨t1, t2⟩ := tail_of last hv k h1
    rcases h2 with h2 | ⟨h0, h2⟩
    · exact ⟨h.room, ⟨_, h2, t1⟩, rfl⟩
    · exact ⟨h.room, ⟨_, h2, t2 h0⟩, rfl⟩
theorem Mess.crash {D : DS} {fs : List (List (List Int))} {last : List (List Int)} (h : Mess D fs last) (hk : D.ok) (keep flip : Int) : Mess (D.crash keep flip) fs last := by
  obtain ⟨t, hb, ht⟩ := h.bs
  obtain ⟨k, h1, h2⟩ := survive_of hk (L := D.b) (t := []) (by rw [List.append_nil]) h.dur keep flip
  obtain rfl : k = 0 := by simpa using h1
  rcases h2 with h2 | h2
  · exact ⟨h.room, ⟨t, by show D.survive keep flip = _; rw [h2, hb]; simp, ht⟩, rfl⟩
  · exact absurd h2.1 (by decide)

/-- What stands on the disk: whole frames, and nothing or torn bytes behind them. -/
theorem Mess.read {D : DS} {fs : List (List (List Int))} {last : List (List Int)} (h : Mess D fs last) :
    ∃ fs' t, (fs' = fs ∨ (VR last ∧ fs' = fs ++ [last])) ∧ D.b = framesP fs' ++ t ∧ (t = [] ∨ (VR last ∧ TornOf last t ∧ fs' = fs)) := by
  obtain ⟨t, hb, ht⟩ := h.bs
  rcases ht with rfl | ⟨hv, rfl | ht⟩
  · exact ⟨fs, [], .inl rfl, hb, .inl rfl⟩
  · exact ⟨fs ++ [last], [], .inr ⟨hv, rfl⟩, by rw [hb]; unfold framesP; rw [List.flatMap_append]; simp, .inl rfl⟩
  · exact ⟨fs, t, .inl rfl, hb, .inr ⟨hv, ht, rfl⟩⟩
theorem Mess.keepSync {D : DS} {fs : List (List (List Int))} {last : List (List Int)} (h : Mess D fs last) : Mess D.sync.2 fs last := by
  obtain ⟨e1, e2, e3⟩ := D.begin_same
  unfold DS.sync
  split
  · exact ⟨e1.trans h.room, by rw [e2]; exact h.bs, by rw [e2, e3]; exact h.dur⟩
  · exact ⟨e1.trans h.room, by simp only [e2]; exact h.bs, by simp only [e2]⟩
theorem Mess.keepBegin {D : DS} {fs : List (List (List Int))} {last : List (List Int)} (h : Mess D fs last) : Mess D.begin.2 fs last := by
  obtain ⟨e1, e2, e3⟩ := D.begin_same
  exact ⟨e1.trans h.room, by rw [e2]; exact h.bs, by rw [e2, e3]; exact h.dur⟩
theorem Mess.keepTrunc {D : DS} {fs : List (List (List Int))} {last : List (List Int)} (h : Mess D fs last) (t : List Int) (hb : D.b = framesP fs ++ t) : Mess (D.truncate (framesP fs).length).2 fs last ∧ ((D.truncate (framesP fs).length).1 = 0 ∨ (D.truncate (framesP fs).length).1 = 42) := by
  obtain ⟨e1, e2, e3⟩ := D.begin_same
  unfold DS.truncate
  split
  · exact ⟨h.keepBegin, .inr rfl⟩
  · rw [if_neg (by rw [hb, List.length_append]; omega)]
    have et : D.b.take ((framesP fs).length : Int).toNat = framesP fs := by rw [Int.toNat_natCast, hb, List.take_left]
    refine ⟨⟨e1.trans h.room, ⟨[], ?_, .inl rfl⟩, ?_⟩, .inl rfl⟩
    · simp only [et, List.append_nil]
    · simp only [et]
      rw [h.dur, hb, List.length_append]
      omega
def DS.jfin (D : DS) (n : Nat) : Int × DS := let s := if 0 < n then D.sync else (0, D); if s.1 ≠ 0 then (42, s.2) else (0, s.2)
theorem jopen_more (D : DS) (n : Nat) : D.jopen n true = if (D.truncate n).1 ≠ 0 then (42, (D.truncate n).2) else (D.truncate n).2.jfin n := rfl
theorem jopen_none (D : DS) (n : Nat) : D.jopen n false = D.jfin n := rfl
theorem Mess.jfin {D : DS} {fs : List (List (List Int))} {last : List (List Int)} (h : Mess D fs last) (n : Nat) : Mess (D.jfin n).2 fs last := by
  unfold DS.jfin
  by_cases hn : 0 < n
  · rw [if_pos hn]
    have := h.keepSync
    generalize D.sync = r at *
    obtain ⟨r1, r2⟩ := r
    simp only
    split <;> exact this
  · rw [if_neg hn]
    exact h
theorem Mess.jopen {D : DS} {fs fs' : List (List (List Int))} {last : List (List Int)} {t : List Int} (h : Mess D fs last) (hb : D.b = framesP fs' ++ t) (ht : t = [] ∨ fs' = fs) : Mess (D.jopen (framesP fs').length (decide (t ≠ []))).2 fs last := by
  by_cases h0 : t = []
  · rw [show decide (t ≠ []) = false from decide_eq_false (by simp [h0]), jopen_none]
    exact h.jfin _
  · obtain rfl : fs' = fs := by rcases ht with e | e; exact absurd e h0; exact e
    rw [show decide (t ≠ []) = true from decide_eq_true h0, jopen_more]
    obtain ⟨k1, k2⟩ := h.keepTrunc t hb
    generalize D.truncate (framesP fs').length = r at *
    obtain ⟨r1, r2⟩ := r
    simp only
    split
    · exact k1
    · exact k1.jfin _
theorem Quiet.jfin {D : DS} {b : List Int} (q : Quiet D 20000 b) (n : Nat) : (D.jfin n).1 = 0 ∧ Quiet (D.jfin n).2 20000 b := by
  unfold DS.jfin
  by_cases hn : 0 < n
  · obtain ⟨E1, e, q1⟩ := q.sync_
    rw [if_pos hn, e]
    exact ⟨rfl, q1⟩
  · rw [if_neg hn]
    exact ⟨rfl, q⟩
theorem Mess.jopen_quiet {D : DS} {fs fs' : List (List (List Int))} {last : List (List Int)} {t : List Int} (h : Mess D fs last) (hb : D.b = framesP fs' ++ t) (hc : D.cut = false) (ho : D.off = false) : (D.jopen (framesP fs').length (decide (t ≠ []))).1 = 0 ∧ Quiet (D.jopen (framesP fs').length (decide (t ≠ []))).2 20000 (framesP fs') := by
  by_cases h0 : t = []
  · rw [show decide (t ≠ []) = false from decide_eq_false (by simp [h0]), jopen_none]
    exact Quiet.jfin ⟨h.room, by rw [hb, h0, List.append_nil], by rw [h.dur, hb, h0, List.append_nil], hc, ho⟩ _
  · rw [show decide (t ≠ []) = true from decide_eq_true h0, jopen_more]
    have et : D.b.take ((framesP fs').length : Int).toNat = framesP fs' := by rw [Int.toNat_natCast, hb, List.take_left]
    have e : D.truncate (framesP fs').length = (0, { ({ D with ops := wrap64 (D.ops + 1) } : DS) with b := framesP fs', dur := (framesP fs').length }) := by
      unfold DS.truncate
      rw [begin_open hc ho, if_neg (by simp), if_neg (by rw [hb, List.length_append]; omega), et]
      have : min D.dur ((framesP fs').length : Int) = (framesP fs').length := by rw [h.dur, hb, List.length_append]; omega
      rw [this]
    rw [e, if_neg (by exact fun h => h rfl)]
    have q : Quiet { ({ D with ops := wrap64 (D.ops + 1) } : DS) with b := framesP fs', dur := (framesP fs').length } 20000 (framesP fs') := ⟨h.room, rfl, rfl, hc, ho⟩
    exact q.jfin _

/-- Open behind a crash. -/
theorem open_mess (w : World) (S : Nat → Prop) (gd : Nat) (D : DS) (fs : List (List (List Int))) (last : List (List Int)) (hd : DiskAt w S gd D) (hS : ∀ k, S k → k < w.heap.size) (h : Mess D fs last) (hv : ∀ rs ∈ fs, VR rs) :
    Calls Try.prog 28 #[.pointer (some ⟨gd, 0, none⟩)] w fun e w' => ∃ fs' x D', (fs' = fs ∨ (VR last ∧ fs' = fs ++ [last])) ∧ OpenPost w S gd fs'.flatten x D' e w' ∧ Mess D' fs last ∧ (D.cut = false → D.off = false → x = 0 ∧ Quiet D' 20000 (framesP fs')) := by
  obtain ⟨fs', t, h1, h2, h3⟩ := h.read
  have hv' : ∀ rs ∈ fs', VR rs := by
    rcases h1 with rfl | ⟨hl, rfl⟩
    · exact hv
    · intro rs hrs
      rcases List.mem_append.1 hrs with hr | hr
      · exact hv rs hr
      · rw [List.mem_singleton] at hr; subst hr; exact hl
  have ht : t = [] ∨ (0 < t.length ∧ (firstP t).2.2 = false ∧ tornP t = true) := by
    rcases h3 with h3 | ⟨hl, h3, _⟩
    · exact .inl h3
    · exact .inr ⟨torn_pos _ _ h3, torn_first _ hl _ h3, torn_torn _ hl _ h3⟩
  rcases ej : D.jopen (framesP fs').length (decide (t ≠ [])) with ⟨x, D'⟩
  refine (open_is w S gd D D' fs' fs'.flatten t D.b x D.b.length (framesP fs').length hd hS (hid rfl) (hid h2) (hid rfl) (hid rfl) (hid rfl) hv' ht (hid ej.symm)).mono ?_
  intro e w' hp
  have k1 := h.jopen h2 (by rcases h3 with h3 | h3; exact .inl h3; exact .inr h3.2.2)
  rw [ej] at k1
  refine ⟨fs', x, D', h1, hp, k1, fun hc ho => ?_⟩
  have := h.jopen_quiet h2 hc ho
  rw [ej] at this
  exact this
/-- As Own1: the disk stays behind an Open whose answer nobody reads. -/
theorem OpenPost.own {B : Nat} {w0 w w' : World} {S : Nat → Prop} {gd : Nat} {all : List (List Int)} {x : Int} {D' : DS} {e : Ending} (h : OpenPost w S gd all x D' e w') (hb : Below B w0 w) (hB : B ≤ w.heap.size) (hS : ∀ k, S k → B ≤ k) : Own1 B w0 w' gd D' := by
  obtain ⟨hf, h⟩ := h
  rcases h with ⟨_, _, hd⟩ | ⟨_, gj, _, hj⟩
  · exact Own1.same hb hB hS hd hf
  · obtain ⟨Sj, Sd, h1, h2, h3, h4, h5⟩ := hj
    exact Own1.next hb hB hS (h2.mono fun k hk => (h4 k hk).1) hf
theorem OpenPost.tuple {w w' : World} {S : Nat → Prop} {gd : Nat} {all : List (List Int)} {x : Int} {D' : DS} {e : Ending} (h : OpenPost w S gd all x D' e w') : ∃ p, e = .returned (.tuple #[.pointer p, .int .i64 x]) := by
  obtain ⟨hf, h⟩ := h
  rcases h with ⟨_, h, hd⟩ | ⟨rfl, gj, h, hj⟩
  · exact ⟨_, h⟩
  · exact ⟨_, h⟩

set_option maxRecDepth 100000 in
set_option maxHeartbeats 1000000 in
theorem holds_not (w : World) (S : Nat → Prop) (g : Nat) (dv : Value) (all : List (List Int)) (dead : Bool) (m : Int) (A : Option Addr) (n c : Nat) (hj : JAt w S g dv all dead) (hm : Hid ((all.length : Int) = m)) (hne : ¬ m = n) :
    Calls Try.prog 31 #[.pointer (some ⟨g, 0, none⟩), .slice A n c] w fun e w' => e = .returned (.bool false) ∧ w = w' := by
  have HJ := hid hj
  clear hj
  go_enter Try.func31, Try.ntmps31
  go_wp2_with fail
  refine (len_any _ S g dv all dead m HJ.out hm).mono ?_
  rintro e w1 ⟨rfl, rfl⟩
  go_wp2
  go_ret
  exact ⟨rfl, rfl⟩
end Go.Proofs.Ytnakolpaabpifaa
