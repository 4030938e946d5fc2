/- The reference's disk: a crash. -/
import Derived.Test.YtnakolpaabpifaaB3
import Derived.IntWalk
set_option linter.unusedVariables false
set_option linter.unusedSimpArgs false
namespace Go.Proofs.Ytnakolpaabpifaa
open Go.RowKit Go.Proofs.YtnakolpaabpifaaW.PrintWords

/-- append(v, ys...) on bytes, inside a region that draws its order. -/
theorem step_append_bytes {ops : Array Oper} {o : Oper} {a : Act} {K : Act → World → Prop} {Q : Exit → Act → World → Prop} {E : Prop} {W : World} (s x : Operand) (hgd : o.guard = none)
    (ho : o.op = .call { callee := .builtin .append, args := #[s, x], argTypes := #[30, 30] })
    (S : Nat → Prop) (v : Value) (xs ys : List Int) (A : Option Addr) (m c : Nat) (hs : a.eval s = v) (hx : a.eval x = .slice A m c)
    (HO : OwnB W S v xs) (HR : ReadsInt W .u8 A m ys) (hl : xs.length + m ≤ 140737488355328)
    (h : ∀ A1 c1 w1, OwnB w1 (Ext S W) (.slice A1 (xs.length + m) c1) (xs ++ ys) → Fr (fun k => v.ownBlock = some k) W w1 → K (a.put o.dst (.slice A1 (xs.length + m) c1)) w1) :
    if Region.wanted o (yielded ops a.tmps) = true then Oper.wp Try.prog o a W K Q else E := by
  have hw : Region.wanted o (yielded ops a.tmps) = true := by simp [Region.wanted, hgd]
  rw [if_pos hw]
  obtain ⟨i0, hi, hzz⟩ := Option.map_eq_some_iff.1 info5
  simp only [Prod.mk.injEq] at hzz
  obtain ⟨hz0, hz1, hz2⟩ := hzz
  have ht := Try.underlying30
  have hm : ys.length = m := HR.1
  have hrun : ∃ v1 w1, (Builtin.append_ #[30, 30] o.type #[v, .slice A m c]).run Try.prog W = .ok v1 w1 ∧ w1.ownsRow 0 5 1 v1 (xs ++ ys).length (nums .u8 (xs ++ ys)) ∧ W.grownBy w1 v.ownBlock ∧ (v1.ownBlock = v.ownBlock ∨ v1.ownBlock = some W.heap.size) := by
    rcases A with _ | ad
    · have h0 : m = 0 := by
        rcases Nat.eq_zero_or_pos m with h0 | h0
        · exact h0
        · obtain ⟨ad, h, _⟩ := HR.2.2 h0
          cases h
      subst h0
      obtain rfl : ys = [] := List.eq_nil_of_length_eq_zero hm
      refine ⟨v, W, ?_, by simpa using HO.1, World.grownBy.refl W _, .inl rfl⟩
      rcases HO.1.2 with ⟨rfl, hn⟩ | ⟨g, cap, cur, rfl, _, _, hnc, _⟩
      · simp [Builtin.append_, run_underlying ht, sizeOf, typeInfo, hi, Builtin.lenOf, Builtin.firstCells]
      · simp [Builtin.append_, run_underlying ht, sizeOf, typeInfo, hi, Builtin.lenOf, Builtin.firstCells, hnc, storeCells]
    · have hcells : ∀ j u, (nums .u8 ys)[j]? = some u → W.cell? (ad.add j) = some u := by
        intro j u hu
        have hj : j < ys.length := by
          rcases Nat.lt_or_ge j ys.length with h | h
          · exact h
          · simp [nums, List.getElem?_eq_none h] at hu
        obtain ⟨ad', h', hc⟩ := HR.2.2 (by omega)
        injection h' with h'
        subst h'
        have := hc j (by omega)
        simp [nums, List.getElem?_eq_getElem hj] at hu
        subst hu
        rw [this]
        simp [List.getD_eq_getElem?_getD, List.getElem?_eq_getElem hj]
      obtain ⟨v1, w1, hr, h2, h3, _, h5⟩ := run_append_own_at (P := Try.prog) W 0 30 o.type 5 i0 (.int .u8 0) 1 1 ht hi hz0 hz1 hz2 rfl (by omega) v xs.length (nums .u8 xs) HO.1 ad m c (nums .u8 ys) (by simp [nums, hm]) hcells
        (by intro u hu; simp only [nums, List.mem_map] at hu; obtain ⟨q, _, rfl⟩ := hu; rfl) (by simp only [maxLen]; omega) (by omega) (Nat.zero_le _)
      exact ⟨v1, w1, hr, by simpa [nums, hm] using h2, h3, h5⟩
  obtain ⟨v1, w1, hr, hown, hg, hat⟩ := hrun
  have ho1 : OwnB w1 (Ext S W) v1 (xs ++ ys) := ⟨hown, fun k hk => by
      rcases hat with hat | hat
      · exact .inl (HO.2 k (hat ▸ hk))
      · rw [hat] at hk; cases hk; exact .inr (Nat.le_refl _)⟩
  obtain ⟨A1, c1, rfl, _, _⟩ := ho1.reads
  have e : (xs ++ ys).length = xs.length + m := by rw [List.length_append, HR.1]
  rw [e] at ho1 hr
  have hK := h A1 c1 w1 ho1 ((Fr.refl _ W).grown hg fun k hk => .inl hk)
  unfold Oper.wp execOp
  simp only [ho, resolve, invoke, builtin, Sem.run_bind, Sem.run_pure, Result.andThen_ok, List.map_toArray, List.map_cons, List.map_nil, hs, hx, hr]
  exact hK

theorem ref_round {wx W w2 : World} {n c g i : Nat} {v : Value} (hf : Fr (fun k => (Value.slice (some ⟨wx.heap.size, 0, none⟩) n c).ownBlock = some k) W w2) (hw : Below wx.heap.size wx W) (hx : wx.cell? ⟨g, i, none⟩ = some v) : w2.cell? ⟨g, i, none⟩ = some v := by
  have hlt := World.block_lt_of_cell? wx _ hx
  refine hf.cell (a := ⟨g, i, none⟩) (pw_cell_below hw hx) (fun h => ?_)
  simp [Value.ownBlock] at h hlt
  omega

theorem ref_round_below {wx W w2 : World} {n c : Nat} (hf : Fr (fun k => (Value.slice (some ⟨wx.heap.size, 0, none⟩) n c).ownBlock = some k) W w2) (hw : Below wx.heap.size wx W) : Below wx.heap.size wx w2 :=
  hw.trans (hf.below hw.size fun j hj => by simp [Value.ownBlock] at hj; omega)

/-- The last step of a crash: the new disk is made. -/
theorem ref_crash_end {w W1 : World} {N c2 : Nat} {A2 : Option Addr} {L : List Int} {D : DS} {keep flip : Int} (hB2 : Below w.heap.size w W1)
    (hown1 : OwnB W1 (fun k => w.heap.size ≤ k) (.slice A2 N c2) L) (hsv : D.survive keep flip = L) (hll : L.length = N) (h0 : 0 ≤ D.room) (h1 : D.room ≤ 262144) (hLr : (N : Int) ≤ D.room) (hLb : ∀ x ∈ L, 0 ≤ x ∧ x < 256) :
    ∃ x, Ending.returned (.pointer (some ⟨W1.heap.size, 0, none⟩)) = .returned (.pointer (some ⟨x, 0, none⟩)) ∧
      RefAt (W1.alloc (.cells #[.int .i64 D.room, .int .i64 (N : Int), .int .i64 0, .slice A2 N c2, .bool false, .int .i64 0] 75)) (fun k => w.heap.size ≤ k) x (D.crash keep flip) ∧
      Below w.heap.size w (W1.alloc (.cells #[.int .i64 D.room, .int .i64 (N : Int), .int .i64 0, .slice A2 N c2, .bool false, .int .i64 0] 75)) := by
  refine ⟨_, rfl, .mk _ (.slice A2 N c2) false 0 (blk_new W1 _) (by simp [DS.crash, hsv, hll]) ?_ hB2.size ?_ (.inr (.inl ⟨rfl, rfl, rfl⟩)), hB2.alloc hB2.size _⟩
  · simp only [DS.crash, hsv]
    exact hown1.move fun j _ hj => Below.heap_alloc _ _ _ hj
  · constructor <;> simp only [DS.crash, hsv, hll]
    · exact h0
    · exact h1
    · exact hLr
    · omega
    · omega
    · exact hLb

set_option maxHeartbeats 800000 in
theorem ref_crash (w : World) (S : Nat → Prop) (g : Nat) (D : DS) (keep flip : Int) (hd : RefAt w S g D) :
    Calls Try.prog 24 #[.pointer (some ⟨g, 0, none⟩), .int .i64 keep, .int .i64 flip] w fun e w' => ∃ g', e = .returned (.pointer (some ⟨g', 0, none⟩)) ∧ RefAt w' (fun k => w.heap.size ≤ k) g' (D.crash keep flip) ∧ Below w.heap.size w w' := by
  obtain ⟨v, cc, l, hb, ho, hs, hk, hrc⟩ := hd
  obtain ⟨A1, c1, rfl, hl1, hr1⟩ := ho.reads
  have q0 : w.cell? ⟨g, 0, none⟩ = some (.int .i64 D.room) := blk_cell hb 0
  have q1 : w.cell? ⟨g, 1, none⟩ = some (.int .i64 D.dur) := blk_cell hb 1
  have q3 : w.cell? ⟨g, 3, none⟩ = some (.slice A1 D.b.length c1) := blk_cell hb 3
  have hglt := blk_lt hb
  have hd0 := hk.d0
  have hd1 := hk.d1
  have hlen := hk.l
  have hroom := hk.r1
  have hm : 0 < (D.b.length : Int) - D.dur + 1 := by omega
  have ht1 : keep.tmod ((D.b.length : Int) - D.dur + 1) < (D.b.length : Int) - D.dur + 1 := Int.tmod_lt_of_pos _ hm
  have ht2 : -((D.b.length : Int) - D.dur + 1) < keep.tmod ((D.b.length : Int) - D.dur + 1) := Int.lt_tmod_of_pos keep hm
  go_enter Try.func24, Try.ntmps24
  go_wp2
  go_quiet (fail)
  go_wp2
  · generalize hkk : keep.tmod ((D.b.length : Int) - D.dur + 1) + ((D.b.length : Int) - D.dur) + 1 = k
    have hneg : keep.tmod ((D.b.length : Int) - D.dur + 1) < 0 := by assumption
    have hk0 : 0 ≤ k := by omega
    have hk1 : k ≤ (D.b.length : Int) - D.dur := by omega
    have hkd : Hid (D.keeps keep = k) := by unfold DS.keeps; simp only; rw [if_pos hneg, ← hkk, Int.add_assoc]; rfl
    clear hkk ht1 ht2 hneg
    have hx0 : (w.drewN nq).cell? ⟨g, 0, none⟩ = some (.int .i64 D.room) := q0
    have hx1 : (w.drewN nq).cell? ⟨g, 1, none⟩ = some (.int .i64 D.dur) := q1
    have hx3 : (w.drewN nq).cell? ⟨g, 3, none⟩ = some (.slice A1 D.b.length c1) := q3
    have hrx : ReadsInt (w.drewN nq) .u8 A1 D.b.length D.b := hr1.below (pw_below_drewN (Below.refl _ _) nq)
    have hbx : Below w.heap.size w (w.drewN nq) := pw_below_drewN (Below.refl _ _) nq
    clear q0 q1 q3 hb ho hr1
    generalize w.drewN nq = wx at *
    have hrt := (hrx.take_ (D.dur + k).toNat (by omega)).below ((pw_below_drewN (Below.refl wx.heap.size wx) 1).alloc (Nat.le_refl _) (.cells #[] 5))
    have hoe := own_empty wx.drew
    have hl5 : ([] : List Int).length + (D.dur + k).toNat ≤ 140737488355328 := by simp; omega
    have hct : (D.dur + k).toNat ≤ c1 := by omega
    have hsl0 : 0 ≤ D.dur + k := by omega
    have hsl1 : D.dur + k ≤ (c1 : Int) := by omega
    have hslw : IntKind.i64.wrap (D.dur + k) = D.dur + k := IntWalk.i64_in _ (by omega)
    have Hx1 := hid hx1
    have Hx3 := hid hx3
    have Hw1 := hid (((pw_below_drewN (Below.refl wx.heap.size wx) 1).alloc (Nat.le_refl _) (.cells #[] 5)))
    go_region_held3 (fun w' => w'.cell? ⟨g, 1, none⟩ = some (.int .i64 D.dur) ∧ w'.cell? ⟨g, 3, none⟩ = some (.slice A1 D.b.length c1))
      (first | go_keep | exact ⟨y1, y3⟩) ((refine step_append_bytes (.tmp 30) (.tmp 41) rfl rfl (fun k => wx.heap.size ≤ k) _ [] (D.b.take (D.dur + k).toNat) A1 _ c1 rfl rfl hoe hrt hl5 ?_; intro A2 c2 w2 ho2 hf2; have y1 := ref_round hf2 Hw1.out Hx1.out; have y3 := ref_round hf2 Hw1.out Hx3.out))
    rename_i hHeld
    clear hslw y1 y3 hHeld hx1 hx3 Hx1 Hx3
    have hll : (D.b.take (D.dur + k).toNat).length = (D.dur + k).toNat := by rw [List.length_take]; omega
    have hkN : Hid (D.survive keep flip = if 0 < k ∧ flip.tmod 2 ≠ 0 then (D.b.take (D.dur + k).toNat).set ((D.b.take (D.dur + k).toNat).length - 1) (Go.bits .xor .u8 (rd (D.b.take (D.dur + k).toNat) ((D.b.take (D.dur + k).toNat).length - 1)) 85) else D.b.take (D.dur + k).toNat) := by
      unfold DS.survive Hid
      rw [hkd.out]
    have hNk : 0 < k → 0 < (D.dur + k).toNat := fun h => by omega
    have hNl : (D.dur + k).toNat ≤ 262144 := by omega
    have hLr : ((D.dur + k).toNat : Int) ≤ D.room := by omega
    have hLb : ∀ x ∈ D.b.take (D.dur + k).toNat, 0 ≤ x ∧ x < 256 := fun x hx => hk.bytes x (List.mem_of_mem_take hx)
    have hb2 : Below w.heap.size w w2 := hbx.trans ((ref_round_below hf2 Hw1.out).mono hbx.size)
    have hx0' := ref_round hf2 Hw1.out hx0
    have hown2 : OwnB w2 (fun j => w.heap.size ≤ j) (.slice A2 (D.dur + k).toNat c2) (D.b.take (D.dur + k).toNat) := by
      have h := ho2.mono (S1 := fun j => w.heap.size ≤ j) (fun j hj => by have := hbx.size; unfold Ext at hj; simp at hj; omega)
      simpa using h
    clear hct hsl0 hsl1 hkd hk0 hl5 hf2 hx0 hoe hrt hrx ho2 Hw1 hbx
    generalize (D.dur + k).toNat = N at *
    generalize D.b.take N = L at *
    have HLL := hid hll
    clear hll
    by_cases hks : 0 < k
    · by_cases hfl : flip.tmod 2 = 0
      · have hfl' : (flip.tmod 2 != 0) = false := by simp [hfl]
        have Hfl := hid hfl
        clear hfl
        go_wp2
        go_ret
        have hsv : D.survive keep flip = L := by rw [hkN.out, if_neg (fun h => h.2 Hfl.out)]
        exact ref_crash_end hb2 hown2 hsv HLL.out hk.r0 hk.r1 hLr hLb
      · have hfl' : (flip.tmod 2 != 0) = true := by simp [hfl]
        have Hfl := hid hfl
        clear hfl
        have hN0 : 0 < N := hNk hks
        obtain ⟨ga, ca, hA, _, _⟩ := hown2.1.form (by rw [HLL.out]; exact hN0)
        obtain ⟨rfl, rfl⟩ : A2 = some ⟨ga, 0, none⟩ ∧ ca = c2 := by injection hA with e1 e2 e3; exact ⟨e1, e3.symm⟩
        clear hA
        have hi0 : (0 : Int) ≤ (N : Int) - 1 := by omega
        have hi1 : (N : Int) - 1 < (N : Int) := by omega
        have hrow := hown2.1
        rw [HLL.out] at hrow
        obtain ⟨a1, a2⟩ := own_at hrow ((N : Int) - 1) hi0 hi1
        have Hst := hid (own_store hrow ((N : Int) - 1) (Go.bits .xor .u8 (rd L ((N : Int) - 1)) 85))
        clear hrow
        have hgg : ga ≠ g := fun e => by
          have h := hown2.2 ga rfl
          omega
        have hgg' : g ≠ ga := fun e => hgg e.symm
        have eN : ((N : Int) - 1).toNat = N - 1 := by omega
        rw [eN] at a1 a2 Hst
        clear eN
        have hi2 : 1 ≤ (N : Int) := by omega
        go_wp2
        go_ret
        have hsv : D.survive keep flip = L.set (N - 1) (Go.bits .xor .u8 (rd L ((N : Int) - 1)) 85) := by rw [hkN.out, if_pos ⟨hks, Hfl.out⟩, HLL.out]
        have hB3 : Below w.heap.size w (w2.setCell ⟨ga, N - 1, none⟩ (.int .u8 (Go.bits .xor .u8 (rd L ((N : Int) - 1)) 85))) := hb2.setCell (hown2.2 ga rfl) _
        have hbytes : ∀ x ∈ L.set (N - 1) (Go.bits .xor .u8 (rd L ((N : Int) - 1)) 85), 0 ≤ x ∧ x < 256 := by
          intro x hx
          rcases List.mem_or_eq_of_mem_set hx with h | h
          · exact hLb x h
          · subst h; exact xor_byte _ _ (rd_byte hLb _).1 (rd_byte hLb _).2 (by decide) (by decide)
        have hlen2 : (L.set (N - 1) (Go.bits .xor .u8 (rd L ((N : Int) - 1)) 85)).length = N := by rw [List.length_set, HLL.out]
        have hsz : (w2.setCell ⟨ga, N - 1, none⟩ (.int .u8 (Go.bits .xor .u8 (rd L ((N : Int) - 1)) 85))).heap.size = w2.heap.size := by simp [World.setCell]
        have he := ref_crash_end hB3 ⟨by rw [hlen2]; exact Hst.out.1, hown2.2⟩ hsv hlen2 hk.r0 hk.r1 hLr hbytes
        rw [hsz] at he
        exact he
    · go_wp2
      go_ret
      have hsv : D.survive keep flip = L := by rw [hkN.out, if_neg (fun h => by have := h.1; omega)]
      exact ref_crash_end hb2 hown2 hsv HLL.out hk.r0 hk.r1 hLr hLb
  · generalize hkk : keep.tmod ((D.b.length : Int) - D.dur + 1) = k
    have hneg : 0 ≤ k := by rw [← hkk]; assumption
    have hk0 : 0 ≤ k := hneg
    have hk1 : k ≤ (D.b.length : Int) - D.dur := by omega
    have hkd : Hid (D.keeps keep = k) := by unfold DS.keeps; simp only; rw [if_neg (by omega)]; exact hkk
    clear hkk ht1 ht2 hneg
    have hx0 : (w.drewN nq).cell? ⟨g, 0, none⟩ = some (.int .i64 D.room) := q0
    have hx1 : (w.drewN nq).cell? ⟨g, 1, none⟩ = some (.int .i64 D.dur) := q1
    have hx3 : (w.drewN nq).cell? ⟨g, 3, none⟩ = some (.slice A1 D.b.length c1) := q3
    have hrx : ReadsInt (w.drewN nq) .u8 A1 D.b.length D.b := hr1.below (pw_below_drewN (Below.refl _ _) nq)
    have hbx : Below w.heap.size w (w.drewN nq) := pw_below_drewN (Below.refl _ _) nq
    clear q0 q1 q3 hb ho hr1
    generalize w.drewN nq = wx at *
    have hrt := (hrx.take_ (D.dur + k).toNat (by omega)).below ((pw_below_drewN (Below.refl wx.heap.size wx) 1).alloc (Nat.le_refl _) (.cells #[] 5))
    have hoe := own_empty wx.drew
    have hl5 : ([] : List Int).length + (D.dur + k).toNat ≤ 140737488355328 := by simp; omega
    have hct : (D.dur + k).toNat ≤ c1 := by omega
    have hsl0 : 0 ≤ D.dur + k := by omega
    have hsl1 : D.dur + k ≤ (c1 : Int) := by omega
    have hslw : IntKind.i64.wrap (D.dur + k) = D.dur + k := IntWalk.i64_in _ (by omega)
    have Hx1 := hid hx1
    have Hx3 := hid hx3
    have Hw1 := hid (((pw_below_drewN (Below.refl wx.heap.size wx) 1).alloc (Nat.le_refl _) (.cells #[] 5)))
    go_region_held3 (fun w' => w'.cell? ⟨g, 1, none⟩ = some (.int .i64 D.dur) ∧ w'.cell? ⟨g, 3, none⟩ = some (.slice A1 D.b.length c1))
      (first | go_keep | exact ⟨y1, y3⟩) ((refine step_append_bytes (.tmp 30) (.tmp 41) rfl rfl (fun k => wx.heap.size ≤ k) _ [] (D.b.take (D.dur + k).toNat) A1 _ c1 rfl rfl hoe hrt hl5 ?_; intro A2 c2 w2 ho2 hf2; have y1 := ref_round hf2 Hw1.out Hx1.out; have y3 := ref_round hf2 Hw1.out Hx3.out))
    rename_i hHeld
    clear hslw y1 y3 hHeld hx1 hx3 Hx1 Hx3
    have hll : (D.b.take (D.dur + k).toNat).length = (D.dur + k).toNat := by rw [List.length_take]; omega
    have hkN : Hid (D.survive keep flip = if 0 < k ∧ flip.tmod 2 ≠ 0 then (D.b.take (D.dur + k).toNat).set ((D.b.take (D.dur + k).toNat).length - 1) (Go.bits .xor .u8 (rd (D.b.take (D.dur + k).toNat) ((D.b.take (D.dur + k).toNat).length - 1)) 85) else D.b.take (D.dur + k).toNat) := by
      unfold DS.survive Hid
      rw [hkd.out]
    have hNk : 0 < k → 0 < (D.dur + k).toNat := fun h => by omega
    have hNl : (D.dur + k).toNat ≤ 262144 := by omega
    have hLr : ((D.dur + k).toNat : Int) ≤ D.room := by omega
    have hLb : ∀ x ∈ D.b.take (D.dur + k).toNat, 0 ≤ x ∧ x < 256 := fun x hx => hk.bytes x (List.mem_of_mem_take hx)
    have hb2 : Below w.heap.size w w2 := hbx.trans ((ref_round_below hf2 Hw1.out).mono hbx.size)
    have hx0' := ref_round hf2 Hw1.out hx0
    have hown2 : OwnB w2 (fun j => w.heap.size ≤ j) (.slice A2 (D.dur + k).toNat c2) (D.b.take (D.dur + k).toNat) := by
      have h := ho2.mono (S1 := fun j => w.heap.size ≤ j) (fun j hj => by have := hbx.size; unfold Ext at hj; simp at hj; omega)
      simpa using h
    clear hct hsl0 hsl1 hkd hk0 hl5 hf2 hx0 hoe hrt hrx ho2 Hw1 hbx
    generalize (D.dur + k).toNat = N at *
    generalize D.b.take N = L at *
    have HLL := hid hll
    clear hll
    by_cases hks : 0 < k
    · by_cases hfl : flip.tmod 2 = 0
      · have hfl' : (flip.tmod 2 != 0) = false := by simp [hfl]
        have Hfl := hid hfl
        clear hfl
        go_wp2
        go_ret
        have hsv : D.survive keep flip = L := by rw [hkN.out, if_neg (fun h => h.2 Hfl.out)]
        exact ref_crash_end hb2 hown2 hsv HLL.out hk.r0 hk.r1 hLr hLb
      · have hfl' : (flip.tmod 2 != 0) = true := by simp [hfl]
        have Hfl := hid hfl
        clear hfl
        have hN0 : 0 < N := hNk hks
        obtain ⟨ga, ca, hA, _, _⟩ := hown2.1.form (by rw [HLL.out]; exact hN0)
        obtain ⟨rfl, rfl⟩ : A2 = some ⟨ga, 0, none⟩ ∧ ca = c2 := by injection hA with e1 e2 e3; exact ⟨e1, e3.symm⟩
        clear hA
        have hi0 : (0 : Int) ≤ (N : Int) - 1 := by omega
        have hi1 : (N : Int) - 1 < (N : Int) := by omega
        have hrow := hown2.1
        rw [HLL.out] at hrow
        obtain ⟨a1, a2⟩ := own_at hrow ((N : Int) - 1) hi0 hi1
        have Hst := hid (own_store hrow ((N : Int) - 1) (Go.bits .xor .u8 (rd L ((N : Int) - 1)) 85))
        clear hrow
        have hgg : ga ≠ g := fun e => by
          have h := hown2.2 ga rfl
          omega
        have hgg' : g ≠ ga := fun e => hgg e.symm
        have eN : ((N : Int) - 1).toNat = N - 1 := by omega
        rw [eN] at a1 a2 Hst
        clear eN
        have hi2 : 1 ≤ (N : Int) := by omega
        go_wp2
        go_ret
        have hsv : D.survive keep flip = L.set (N - 1) (Go.bits .xor .u8 (rd L ((N : Int) - 1)) 85) := by rw [hkN.out, if_pos ⟨hks, Hfl.out⟩, HLL.out]
        have hB3 : Below w.heap.size w (w2.setCell ⟨ga, N - 1, none⟩ (.int .u8 (Go.bits .xor .u8 (rd L ((N : Int) - 1)) 85))) := hb2.setCell (hown2.2 ga rfl) _
        have hbytes : ∀ x ∈ L.set (N - 1) (Go.bits .xor .u8 (rd L ((N : Int) - 1)) 85), 0 ≤ x ∧ x < 256 := by
          intro x hx
          rcases List.mem_or_eq_of_mem_set hx with h | h
          · exact hLb x h
          · subst h; exact xor_byte _ _ (rd_byte hLb _).1 (rd_byte hLb _).2 (by decide) (by decide)
        have hlen2 : (L.set (N - 1) (Go.bits .xor .u8 (rd L ((N : Int) - 1)) 85)).length = N := by rw [List.length_set, HLL.out]
        have hsz : (w2.setCell ⟨ga, N - 1, none⟩ (.int .u8 (Go.bits .xor .u8 (rd L ((N : Int) - 1)) 85))).heap.size = w2.heap.size := by simp [World.setCell]
        have he := ref_crash_end hB3 ⟨by rw [hlen2]; exact Hst.out.1, hown2.2⟩ hsv hlen2 hk.r0 hk.r1 hLr hbytes
        rw [hsz] at he
        exact he
    · go_wp2
      go_ret
      have hsv : D.survive keep flip = L := by rw [hkN.out, if_neg (fun h => by have := h.1; omega)]
      exact ref_crash_end hb2 hown2 hsv HLL.out hk.r0 hk.r1 hLr hLb
end Go.Proofs.Ytnakolpaabpifaa
