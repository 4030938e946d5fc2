/- Disks that nobody cuts; journals on them; the chapter's example. -/
import Derived.Test.YtnakolpaabpifaaJ14
set_option linter.unusedVariables false
set_option linter.unusedSimpArgs false
namespace Go.Proofs.Ytnakolpaabpifaa
open Go.RowKit Go.Proofs.YtnakolpaabpifaaW.PrintWords Go.Proofs.YtnakolpaabpifaaW.PrintLast

structure Quiet (D : DS) (room : Int) (b : List Int) : Prop where
  hroom : D.room = room
  hbs : D.b = b
  hdur : D.dur = b.length
  hcut : D.cut = false
  hoff : D.off = false
theorem Quiet.new (room : Int) : Quiet (DS.new room) room [] := ⟨rfl, rfl, rfl, rfl, rfl⟩
theorem Quiet.begin_ {D : DS} {room : Int} {b : List Int} (h : Quiet D room b) : D.begin = (true, { D with ops := wrap64 (D.ops + 1) }) := by
  unfold DS.begin
  rw [h.hoff, h.hcut]
  rfl
theorem begin_open {D : DS} (h1 : D.cut = false) (h2 : D.off = false) : D.begin = (true, { D with ops := wrap64 (D.ops + 1) }) := by
  unfold DS.begin
  rw [h1, h2]
  rfl
theorem Quiet.sync_ {D : DS} {room : Int} {b : List Int} (h : Quiet D room b) : ∃ D1, D.sync = (0, D1) ∧ Quiet D1 room b := by
  unfold DS.sync
  rw [h.begin_]
  exact ⟨_, rfl, h.hroom, h.hbs, by simp [h.hbs], h.hcut, h.hoff⟩
theorem Quiet.jappend_full {D : DS} {room : Int} {b F : List Int} (h : Quiet D room b) (hf : room - b.length < F.length) : ∃ D1, D.jappend F = (43, false, D1) ∧ Quiet D1 room b := by
  have e : D.append F = (43, { D with ops := wrap64 (D.ops + 1) }) := by
    unfold DS.append
    rw [h.begin_, if_neg (by simp), if_pos (by rw [h.hroom, h.hbs]; exact hf)]
  unfold DS.jappend
  rw [e]
  exact ⟨_, rfl, h.hroom, h.hbs, h.hdur, h.hcut, h.hoff⟩
theorem Quiet.jappend_ok {D : DS} {room : Int} {b F : List Int} (h : Quiet D room b) (hf : ¬ room - b.length < F.length) : ∃ D1, D.jappend F = (0, false, D1) ∧ Quiet D1 room (b ++ F) := by
  have e : D.append F = (0, { ({ D with ops := wrap64 (D.ops + 1) } : DS) with b := D.b ++ F }) := by
    unfold DS.append
    rw [h.begin_, if_neg (by simp), if_neg (by rw [h.hroom, h.hbs]; exact hf)]
  unfold DS.jappend
  rw [e]
  simp only
  rw [if_neg (by decide), if_neg (by decide)]
  have e2 : ({ ({ D with ops := wrap64 (D.ops + 1) } : DS) with b := D.b ++ F }).sync = (0, { ({ ({ D with ops := wrap64 (D.ops + 1) } : DS) with b := D.b ++ F, ops := wrap64 (wrap64 (D.ops + 1) + 1) }) with dur := ((D.b ++ F).length : Nat) }) := by
    unfold DS.sync
    rw [begin_open (by exact h.hcut) (by exact h.hoff), if_neg (by simp)]
  rw [e2]
  exact ⟨_, rfl, h.hroom, by simp [h.hbs], by simp [h.hbs], h.hcut, h.hoff⟩
theorem Quiet.crash_ {D : DS} {room : Int} {b : List Int} (h : Quiet D room b) (keep flip : Int) : Quiet (D.crash keep flip) room b := by
  have hk : D.keeps keep = 0 := by
    unfold DS.keeps
    simp only
    rw [h.hbs, h.hdur]
    have : (b.length : Int) - b.length + 1 = 1 := by omega
    rw [this, Int.tmod_one]
    rfl
  have hs : D.survive keep flip = b := by
    unfold DS.survive
    simp only
    rw [hk, if_neg (by simp), h.hbs, h.hdur]
    have : ((b.length : Int) + 0).toNat = b.length := by omega
    rw [this, List.take_length]
  unfold DS.crash
  rw [hs]
  exact ⟨h.hroom, rfl, rfl, rfl, rfl⟩
theorem Quiet.jopen_ {D : DS} {room : Int} {b : List Int} (h : Quiet D room b) (n : Nat) : ∃ D1, D.jopen n false = (0, D1) ∧ Quiet D1 room b := by
  unfold DS.jopen
  by_cases hn : 0 < n
  · obtain ⟨D1, e, q⟩ := h.sync_
    refine ⟨D1, ?_, q⟩
    simp [hn, e]
  · exact ⟨D, by simp [hn], h⟩

/-- Append on a journal that lives. -/
theorem append_jd (w : World) (S okp : Nat → Prop) (gj gd : Nat) (all rs all' : List (List Int)) (D D' : DS) (x : Int) (dd : Bool) (A : Option Addr) (n c : Nat)
    (h : JD w S gj gd all false D) (hr : Kd.F KB w okp A n rs) (hok : ∀ k, okp k → ¬ S k ∧ k < w.heap.size) (hc : n ≤ c) (hv : VR rs) (hx : Hid ((x, dd, D') = D.jappend (frameP rs))) (hall : Hid (all' = if x = 0 then all ++ rs else all)) (hall9 : all.length ≤ 1000000000) :
    Calls Try.prog 30 #[.pointer (some ⟨gj, 0, none⟩), .slice A n c] w fun e w' => e = .returned (.int .i64 x) ∧ JD w' (Ext S w) gj gd all' dd D' ∧ Fr S w w' := by
  obtain ⟨Sj, Sd, h1, h2, h3, h4, h5⟩ := h
  rcases ha : D.append (frameP rs) with ⟨r, D1⟩
  exact append_live x dd D' all' w S Sj Sd okp gj gd all rs D D1 r (frameP rs) A n c h1 h2 h3 h4 h5 hr hok hc hv (hid rfl) (hid ha) hx hall hall9
/-- Open on a disk that nobody cuts. -/
theorem open_quiet (w : World) (S : Nat → Prop) (gd : Nat) (D : DS) (room : Int) (fs : List (List (List Int))) (all : List (List Int)) (b : List Int) (hd : DiskAt w S gd D) (hS : ∀ k, S k → k < w.heap.size) (hq : Quiet D room b) (hb : Hid (b = framesP fs)) (hall : Hid (all = fs.flatten)) (hv : ∀ rs ∈ fs, VR rs) :
    Calls Try.prog 28 #[.pointer (some ⟨gd, 0, none⟩)] w fun e w' => ∃ gj D', e = .returned (.tuple #[.pointer (some ⟨gj, 0, none⟩), .int .i64 0]) ∧ JD w' (Ext S w) gj gd all false D' ∧ Fr S w w' ∧ Quiet D' room b := by
  obtain ⟨D', e, q⟩ := hq.jopen_ (framesP fs).length
  refine (open_is w S gd D D' fs all [] b 0 b.length (framesP fs).length hd hS (hid hq.hbs) (hid (by rw [List.append_nil]; exact hb.out)) (hid rfl) (hid rfl) hall hv (.inl rfl) (hid (by rw [← e]; rfl))).mono ?_
  rintro e w' ⟨hf, h | ⟨_, gj, he, hj⟩⟩
  · exact absurd rfl h.1
  · exact ⟨gj, D', he, hj, hf, q⟩
theorem JD.disk {w : World} {S : Nat → Prop} {gj gd : Nat} {all : List (List Int)} {dead : Bool} {D : DS} (h : JD w S gj gd all dead D) : ∃ Sd, DiskAt w Sd gd D := by
  obtain ⟨Sj, Sd, h1, h2, h3, h4, h5⟩ := h
  exact ⟨Sd, h2⟩
theorem JD.jour {w : World} {S : Nat → Prop} {gj gd : Nat} {all : List (List Int)} {dead : Bool} {D : DS} (h : JD w S gj gd all dead D) : ∃ Sj, JAt w Sj gj (.pointer (some ⟨gd, 0, none⟩)) all dead := by
  obtain ⟨Sj, Sd, h1, h2, h3, h4, h5⟩ := h
  exact ⟨Sj, h1⟩
/-- Everything of the two is new since base. -/
def JDn (base : Nat) (w : World) (gj gd : Nat) (all : List (List Int)) (dead : Bool) (D : DS) : Prop := JD w (fun k => base ≤ k) gj gd all dead D
end Go.Proofs.Ytnakolpaabpifaa
