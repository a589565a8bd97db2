/- Law SpaceMore: its walk, and its plain law. -/
import Derived.Test.YtefbeekjoafijaaMirror
import Derived.Deep.CutRange
namespace Go.Proofs.Ytefbeekjoafijaa
open Go.RowKit Go.Sort
set_option linter.unusedVariables false
set_option linter.unusedSimpArgs false
attribute [local irreducible] wpQuiet

/-! ### plain -/
theorem band_sub {l m : List Flt} (h : ∀ f ∈ l, f ∈ m) {a b : Int} (ha : -Far ≤ a) : (bandOf l a b).1 ≤ (bandOf m a b).1 ∧ (bandOf m a b).2 ≤ (bandOf l a b).2 := by
  have p := bandOf_spec l (b := b) ha
  have q := bandOf_spec m (b := b) ha
  constructor
  · rcases p.getL with e | ⟨y, h1, h2, e⟩
    · rw [e]; exact q.lo
    · have := (q.all y h1 h2).1
      have h3 : (gOf l y).1 ≤ (gOf m y).1 := lft_le_of_mem h y
      omega
  · rcases p.getR with e | ⟨y, h1, h2, e⟩
    · rw [e]; exact q.hi
    · have := (q.all y h1 h2).2
      have h3 : (gOf m y).2 ≤ (gOf l y).2 := rgt_le_of_mem h y
      omega

theorem gOf_above (l : List Flt) (f : Flt) {y : Int} (h : y < f.t) : gOf (l ++ [f]) y = gOf l y := by
  rw [gOf_snoc]
  by_cases hc : counts f = true
  · rw [if_pos hc]
    unfold gput
    rw [if_neg (by omega)]
  · rw [if_neg hc]

theorem band_above (l : List Flt) (f : Flt) {a b : Int} (ha : -Far ≤ a) (h : b ≤ f.t) : bandOf (l ++ [f]) a b = bandOf l a b := by
  have p := bandOf_spec l (b := b) ha
  have q := bandOf_spec (l ++ [f]) (b := b) ha
  have c : IsBand (gOf l) a b (bandOf (l ++ [f]) a b).1 (bandOf (l ++ [f]) a b).2 := by
    refine ⟨q.lo, q.hi, fun y h1 h2 => ?_, ?_, ?_⟩
    · rw [← gOf_above l f (by omega)]; exact q.all y h1 h2
    · rcases q.getL with e | ⟨y, h1, h2, e⟩
      · exact .inl e
      · exact .inr ⟨y, h1, h2, by rw [← gOf_above l f (by omega)]; exact e⟩
    · rcases q.getR with e | ⟨y, h1, h2, e⟩
      · exact .inl e
      · exact .inr ⟨y, h1, h2, by rw [← gOf_above l f (by omega)]; exact e⟩
  have := p.unique c
  exact Prod.ext this.1.symm this.2.symm

theorem clearOf_more (c y : Int) (l : List Flt) (f : Flt) : clearOf c y l ≤ clearOf c y (l ++ [f]) := by
  unfold clearOf bottomOf
  by_cases hc : c ≤ 0 ∨ 3 < c
  · rw [if_pos hc, if_pos hc]; exact Int.le_refl _
  · rw [if_neg hc, if_neg hc, botOf_snoc]
    by_cases hb : clearsB c f.side = true
    · rw [if_pos hb]
      cases botOf c l with
      | none => show y ≤ max y f.b; omega
      | some b =>
        show max y b ≤ max y (if b < f.b then f.b else b)
        split <;> omega
    · rw [if_neg hb]; exact Int.le_refl _

theorem lastOf_more (l : List Flt) (f : Flt) : ∃ t, lastOf (l ++ [f]) = some t ∧ f.t ≤ t := by
  rw [lastOf_snoc]
  cases lastOf l with
  | none => exact ⟨f.t, rfl, Int.le_refl _⟩
  | some a =>
    refine ⟨if a < f.t then f.t else a, rfl, ?_⟩
    split <;> omega

theorem flRow_get : ∀ {xs : List Flt} {j : Nat} {u : Value}, (flRow xs)[j]? = some u → ∃ (i k : Nat) (f : Flt), j = i * 5 + k ∧ xs[i]? = some f ∧ (flCells f)[k]? = some u
  | [], j, u, h => by simp [flRow] at h
  | f :: xs, j, u, h => by
    have h5 : (flCells f).length = 5 := rfl
    have e : flRow (f :: xs) = flCells f ++ flRow xs := by simp [flRow]
    rw [e] at h
    by_cases hj : j < 5
    · rw [List.getElem?_append_left (by rw [h5]; exact hj)] at h
      exact ⟨0, j, f, by omega, rfl, h⟩
    · rw [List.getElem?_append_right (by rw [h5]; omega), h5] at h
      obtain ⟨i, k, g, h1, h2, h3⟩ := flRow_get h
      exact ⟨i + 1, k, g, by omega, h2, h3⟩

theorem cells_row {w : World} {b o : Nat} {fs : List Flt} (h : ∀ i f, fs[i]? = some f → CellsAt w b o i f) (j : Nat) (u : Value) (hu : (flRow fs)[j]? = some u) : w.cell? ((⟨b, o, none⟩ : Addr).add j) = some u := by
  obtain ⟨i, k, f, rfl, hi, hk⟩ := flRow_get hu
  obtain ⟨c0, c1, c2, c3, c4⟩ := h i f hi
  have hk5 : k < 5 := (List.getElem?_eq_some_iff.1 hk).1
  rw [add_lit]
  rcases (show k = 0 ∨ k = 1 ∨ k = 2 ∨ k = 3 ∨ k = 4 by omega) with rfl | rfl | rfl | rfl | rfl
  · cases hk; exact c0
  · cases hk; exact c1
  · cases hk; exact c2
  · cases hk; exact c3
  · cases hk; exact c4

theorem own_eq {g0 k n c : Nat} (e : (Value.slice (some ⟨g0, 0, none⟩) n c).ownBlock = some k) : g0 = k := by injection e

/-! ### the walk -/
set_option maxRecDepth 100000 in
set_option maxHeartbeats 8000000 in
theorem spaceMore {w : World} {v : Value} {fs : List Flt} (h : FlsAt w v fs) (hreach : fs.length * 40 ≤ 140737488351232) (sd l t r b y ht : Int) :
    Calls Try.prog 12 #[v, .agg #[.int .i64 sd, .int .i64 l, .int .i64 t, .int .i64 r, .int .i64 b], .int .i64 y, .int .i64 ht] w (Ret (.bool true) w) := by
  have hmix := mixed
  obtain ⟨f, hf⟩ : ∃ f : Flt, f = ⟨sd, l, t, r, b⟩ := ⟨_, rfl⟩
  have hfc : flCells f = [.int .i64 sd, .int .i64 l, .int .i64 t, .int .i64 r, .int .i64 b] := by rw [hf]; rfl
  obtain ⟨i0, hi, hz0, hz1, hz2⟩ := info_parts info_rf
  obtain ⟨ad, cap0, rfl, hl0, hlc0, hcell0⟩ := h.split
  have HV := Lib.hid h
  have HC0 := Lib.hid hcell0
  have HF := Lib.hid hf
  have B0 := Lib.hid (Blk.new w 72 #[.int .i64 sd, .int .i64 l, .int .i64 t, .int .i64 r, .int .i64 b])
  have A0 := Lib.hid ((After.refl w).alloc (.cells #[.int .i64 sd, .int .i64 l, .int .i64 t, .int .i64 r, .int .i64 b] 72))
  clear hf h hcell0
  go_enter Try.func12, Try.ntmps12
  go_wp2_with fail
  generalize hw1 : w.alloc (.cells #[.int .i64 sd, .int .i64 l, .int .i64 t, .int .i64 r, .int .i64 b] 72) = w1 at B0 A0 ⊢
  clear hw1
  go_cut [9] from 18 to 23 (fun u wx => FlsAt wx u (fs ++ [f]) ∧ After w1 wx)
  case first =>
    by_cases hpos : 0 < fs.length
    · have h0 : ∃ f0, fs[0]? = some f0 := ⟨_, List.getElem?_eq_getElem hpos⟩
      obtain ⟨f0, hf0⟩ := h0
      obtain ⟨b9, o9, rfl, hb9, hc90⟩ := HC0.out 0 f0 hf0
      have HC9 := Lib.hid (fun (i : Nat) (g : Flt) (hg : fs[i]? = some g) => show CellsAt w1 b9 o9 i g from by
        obtain ⟨b', o', e, hb', hc'⟩ := HC0.out i g hg
        cases e
        exact hc'.after hb' A0.out)
      have hb91 : b9 < w1.heap.size := Nat.lt_of_lt_of_le hb9 A0.out.size
      clear hf0 hc90 hb9
      have HLR := Lib.hid (show (flRow fs).length = fs.length * 5 from flRow_length fs)
      have HOR := Lib.hid (oneCell_int _ (flRow_ints fs))
      have HON := Lib.hid (hfc ▸ oneCell_int _ (flCells_ints f))
      have HA1 := Lib.hid (show 0 + fs.length ≤ maxLen by unfold maxLen; omega)
      have HB1 := Lib.hid (show (0 + fs.length) * 40 ≤ 140737488355328 by omega)
      have HA2 := Lib.hid (show fs.length + 1 ≤ maxLen by unfold maxLen; omega)
      have HB2 := Lib.hid (show (fs.length + 1) * 40 ≤ 140737488355328 by omega)
      have mkR := fun (X : World) (g0 : Nat) (hb : Blk X g0 72 #[]) (hg : w1.heap.size ≤ g0) => show X.ownsRow w1.heap.size 72 5 (.slice (some ⟨g0, 0, none⟩) 0 0) 0 [] from ownsRow_of_blk hb hg (by decide) rfl
      have mkN := fun (X : World) (k : After w1 X) => cells_row (w := X) (fun i g hg => (HC9.out i g hg).after hb91 k)
      have mkA := fun (X : World) (g0 : Nat) (k : After w1 X) (hg : w1.heap.size ≤ g0) (x1 : World) (h1 : X.grownBy x1 (Value.slice (some ⟨g0, 0, none⟩) 0 0).ownBlock) (h2 : X.drawn ≤ x1.drawn) => show After w1 x1 from
        ((k.only _).trans (Only.of_grownOwn h1 h2) (fun _ _ h => h)).after_of (fun i hi hS => by have e := own_eq hS; omega)
      have kA := ((After.refl w1).alloc (.cells #[] 72)).drew
      have kB := (((After.refl w1).alloc (.cells #[] 72)).alloc (.cells #[.int .i64 sd, .int .i64 l, .int .i64 t, .int .i64 r, .int .i64 b] 72)).drew
      have kC := (((After.refl w1).alloc (.cells #[.int .i64 sd, .int .i64 l, .int .i64 t, .int .i64 r, .int .i64 b] 72)).alloc (.cells #[] 72)).drew
      have RA := Lib.hid (mkR _ w1.heap.size (Blk.new w1 72 #[]).drew (Nat.le_refl _))
      have RB := Lib.hid (mkR _ w1.heap.size ((Blk.new w1 72 #[]).alloc (.cells #[.int .i64 sd, .int .i64 l, .int .i64 t, .int .i64 r, .int .i64 b] 72)).drew (Nat.le_refl _))
      have RC := Lib.hid (mkR _ (w1.heap.size + 1) (blk_new1 w1 (.cells #[.int .i64 sd, .int .i64 l, .int .i64 t, .int .i64 r, .int .i64 b] 72) 72 #[]).drew (Nat.le_succ _))
      have NA := Lib.hid (mkN _ kA)
      have NB := Lib.hid (mkN _ kB)
      have NC := Lib.hid (mkN _ kC)
      have SA := Lib.hid kA.size
      have SB := Lib.hid kB.size
      have SC := Lib.hid kC.size
      have AFA := Lib.hid (mkA _ w1.heap.size kA (Nat.le_refl _))
      have AFB := Lib.hid (mkA _ w1.heap.size kB (Nat.le_refl _))
      have AFC := Lib.hid (mkA _ (w1.heap.size + 1) kC (Nat.le_succ _))
      have BNB := Lib.hid (fun (x1 : World) (h1 : (((w1.alloc (.cells #[] 72)).alloc (.cells #[.int .i64 sd, .int .i64 l, .int .i64 t, .int .i64 r, .int .i64 b] 72)).drew).grownBy x1 (Value.slice (some ⟨w1.heap.size, 0, none⟩) 0 0).ownBlock) (h2 : (((w1.alloc (.cells #[] 72)).alloc (.cells #[.int .i64 sd, .int .i64 l, .int .i64 t, .int .i64 r, .int .i64 b] 72)).drew).drawn ≤ x1.drawn) => show Blk x1 (w1.heap.size + 1) 72 #[.int .i64 sd, .int .i64 l, .int .i64 t, .int .i64 r, .int .i64 b] from
        (blk_new1 w1 (.cells #[] 72) 72 #[.int .i64 sd, .int .i64 l, .int .i64 t, .int .i64 r, .int .i64 b]).drew.only (Only.of_grownOwn h1 h2) (fun hS => by have e := own_eq hS; omega))
      have BNC := Lib.hid (fun (x1 : World) (h1 : (((w1.alloc (.cells #[.int .i64 sd, .int .i64 l, .int .i64 t, .int .i64 r, .int .i64 b] 72)).alloc (.cells #[] 72)).drew).grownBy x1 (Value.slice (some ⟨w1.heap.size + 1, 0, none⟩) 0 0).ownBlock) (h2 : (((w1.alloc (.cells #[.int .i64 sd, .int .i64 l, .int .i64 t, .int .i64 r, .int .i64 b] 72)).alloc (.cells #[] 72)).drew).drawn ≤ x1.drawn) => show Blk x1 w1.heap.size 72 #[.int .i64 sd, .int .i64 l, .int .i64 t, .int .i64 r, .int .i64 b] from
        ((Blk.new w1 72 #[.int .i64 sd, .int .i64 l, .int .i64 t, .int .i64 r, .int .i64 b]).alloc (.cells #[] 72)).drew.only (Only.of_grownOwn h1 h2) (fun hS => by have e := own_eq hS; omega))
      clear mkR mkN mkA kA kB kC
      have k0 := B0.out.cell 0
      have k1 := B0.out.cell 1
      have k2 := B0.out.cell 2
      have k3 := B0.out.cell 3
      have k4 := B0.out.cell 4
      have e0 := fun o => (B0.out.alloc o).cell 0
      have e1 := fun o => (B0.out.alloc o).cell 1
      have e2 := fun o => (B0.out.alloc o).cell 2
      have e3 := fun o => (B0.out.alloc o).cell 3
      have e4 := fun o => (B0.out.alloc o).cell 4
      simp at k0 k1 k2 k3 k4 e0 e1 e2 e3 e4
      go_region_law (first | (refine step_append_mine _ rfl _ _ 22 rfl w1.heap.size 72 i0 _ 5 40 Try.underlying22 hi hz0 hz1 hz2 rfl (by decide) (.slice (some ⟨g1, 0, none⟩) fs.length cap1) fs.length (flRow fs) rfl (ownsRow_kept hown1 (((After.refl x1).alloc _).only (fun _ => False)) (fun _ _ h => h)) ⟨x1.heap.size, 0, none⟩ 1 1 [.int .i64 sd, .int .i64 l, .int .i64 t, .int .i64 r, .int .i64 b] rfl rfl (World.news_of_block (Blk.new x1 72 #[.int .i64 sd, .int .i64 l, .int .i64 t, .int .i64 r, .int .i64 b])) HON.out (by decide) HA2.out HB2.out (Nat.le_trans AX1.size (by rw [World.size_alloc]; exact Nat.le_succ _)) ?_; intro g2 cap2 x2 hown2 hgrow2 hat2 hlt2 hdr2; have AX2 : After w1 x2 := (((AX1.alloc _).only _).trans (Only.of_grownOwn hgrow2 hdr2) (fun _ _ h => h)).after_of (fun k hk hS => by have := (hown1.lt k hS).1; omega)) | (refine step_append_mine _ rfl _ _ 22 rfl w1.heap.size 72 i0 _ 5 40 Try.underlying22 hi hz0 hz1 hz2 rfl (by decide) (.slice (some ⟨g1, 0, none⟩) fs.length cap1) fs.length (flRow fs) rfl hown1 ⟨(w1.heap.size + 1), 0, none⟩ 1 1 [.int .i64 sd, .int .i64 l, .int .i64 t, .int .i64 r, .int .i64 b] rfl rfl (World.news_of_block bN) HON.out (by decide) HA2.out HB2.out AX1.size ?_; intro g2 cap2 x2 hown2 hgrow2 hat2 hlt2 hdr2; have AX2 : After w1 x2 := ((AX1.only _).trans (Only.of_grownOwn hgrow2 hdr2) (fun _ _ h => h)).after_of (fun k hk hS => by have := (hown1.lt k hS).1; omega)) | (refine step_append_mine _ rfl _ _ 22 rfl w1.heap.size 72 i0 _ 5 40 Try.underlying22 hi hz0 hz1 hz2 rfl (by decide) (.slice (some ⟨g1, 0, none⟩) fs.length cap1) fs.length (flRow fs) rfl hown1 ⟨w1.heap.size, 0, none⟩ 1 1 [.int .i64 sd, .int .i64 l, .int .i64 t, .int .i64 r, .int .i64 b] rfl rfl (World.news_of_block bN) HON.out (by decide) HA2.out HB2.out AX1.size ?_; intro g2 cap2 x2 hown2 hgrow2 hat2 hlt2 hdr2; have AX2 : After w1 x2 := ((AX1.only _).trans (Only.of_grownOwn hgrow2 hdr2) (fun _ _ h => h)).after_of (fun k hk hS => by have := (hown1.lt k hS).1; omega)) | (refine step_append_mine _ rfl _ _ 22 rfl w1.heap.size 72 i0 _ 5 40 Try.underlying22 hi hz0 hz1 hz2 rfl (by decide) (.slice (some ⟨w1.heap.size, 0, none⟩) 0 0) 0 [] rfl RA.out ⟨b9, o9, none⟩ fs.length cap0 (flRow fs) rfl HLR.out NA.out HOR.out hpos HA1.out HB1.out SA.out ?_; intro g1 cap1 x1 hown0 hgrow1 hat1 hlt1 hdr1; have hown1 : x1.ownsRow w1.heap.size 72 5 (.slice (some ⟨g1, 0, none⟩) fs.length cap1) fs.length (flRow fs) := (by simpa using hown0); clear hown0; have AX1 := AFA.out _ hgrow1 hdr1; have bx := B0.out.after AX1; have z0 := bx.cell 0; have z1 := bx.cell 1; have z2 := bx.cell 2; have z3 := bx.cell 3; have z4 := bx.cell 4; simp at z0 z1 z2 z3 z4) | (refine step_append_mine _ rfl _ _ 22 rfl w1.heap.size 72 i0 _ 5 40 Try.underlying22 hi hz0 hz1 hz2 rfl (by decide) (.slice (some ⟨w1.heap.size, 0, none⟩) 0 0) 0 [] rfl RB.out ⟨b9, o9, none⟩ fs.length cap0 (flRow fs) rfl HLR.out NB.out HOR.out hpos HA1.out HB1.out SB.out ?_; intro g1 cap1 x1 hown0 hgrow1 hat1 hlt1 hdr1; have hown1 : x1.ownsRow w1.heap.size 72 5 (.slice (some ⟨g1, 0, none⟩) fs.length cap1) fs.length (flRow fs) := (by simpa using hown0); clear hown0; have AX1 := AFB.out _ hgrow1 hdr1; have bx := B0.out.after AX1; have z0 := bx.cell 0; have z1 := bx.cell 1; have z2 := bx.cell 2; have z3 := bx.cell 3; have z4 := bx.cell 4; simp at z0 z1 z2 z3 z4; have bN := BNB.out _ hgrow1 hdr1) | (refine step_append_mine _ rfl _ _ 22 rfl w1.heap.size 72 i0 _ 5 40 Try.underlying22 hi hz0 hz1 hz2 rfl (by decide) (.slice (some ⟨w1.heap.size + 1, 0, none⟩) 0 0) 0 [] rfl RC.out ⟨b9, o9, none⟩ fs.length cap0 (flRow fs) rfl HLR.out NC.out HOR.out hpos HA1.out HB1.out SC.out ?_; intro g1 cap1 x1 hown0 hgrow1 hat1 hlt1 hdr1; have hown1 : x1.ownsRow w1.heap.size 72 5 (.slice (some ⟨g1, 0, none⟩) fs.length cap1) fs.length (flRow fs) := (by simpa using hown0); clear hown0; have AX1 := AFC.out _ hgrow1 hdr1; have bx := B0.out.after AX1; have z0 := bx.cell 0; have z1 := bx.cell 1; have z2 := bx.cell 2; have z3 := bx.cell 3; have z4 := bx.cell 4; simp at z0 z1 z2 z3 z4; have bN := BNC.out _ hgrow1 hdr1))
      all_goals (go_wp2_with fail; go_meet)
      all_goals
        refine ⟨?_, AX2⟩
        have e1 : flRow (fs ++ [f]) = flRow fs ++ [.int .i64 sd, .int .i64 l, .int .i64 t, .int .i64 r, .int .i64 b] := by rw [flRow_append, flRow_one, hfc]
        rw [← e1] at hown2
        exact flsAt_of_row hown2 (by simp)
    · have hnil : fs = [] := List.length_eq_zero_iff.1 (by omega)
      subst hnil
      have HON := Lib.hid (hfc ▸ oneCell_int _ (flCells_ints f))
      have mkR := fun (X : World) (g0 : Nat) (hb : Blk X g0 72 #[]) (hg : w1.heap.size ≤ g0) => show X.ownsRow w1.heap.size 72 5 (.slice (some ⟨g0, 0, none⟩) 0 0) 0 [] from ownsRow_of_blk hb hg (by decide) rfl
      have mkA := fun (X : World) (g0 : Nat) (k : After w1 X) (hg : w1.heap.size ≤ g0) (x1 : World) (h1 : X.grownBy x1 (Value.slice (some ⟨g0, 0, none⟩) 0 0).ownBlock) (h2 : X.drawn ≤ x1.drawn) => show After w1 x1 from
        ((k.only _).trans (Only.of_grownOwn h1 h2) (fun _ _ h => h)).after_of (fun i hi hS => by have e := own_eq hS; omega)
      have kB := (((After.refl w1).alloc (.cells #[] 72)).alloc (.cells #[.int .i64 sd, .int .i64 l, .int .i64 t, .int .i64 r, .int .i64 b] 72)).drew
      have kC := (((After.refl w1).alloc (.cells #[.int .i64 sd, .int .i64 l, .int .i64 t, .int .i64 r, .int .i64 b] 72)).alloc (.cells #[] 72)).drew
      have RB := Lib.hid (mkR _ w1.heap.size ((Blk.new w1 72 #[]).alloc (.cells #[.int .i64 sd, .int .i64 l, .int .i64 t, .int .i64 r, .int .i64 b] 72)).drew (Nat.le_refl _))
      have RC := Lib.hid (mkR _ (w1.heap.size + 1) (blk_new1 w1 (.cells #[.int .i64 sd, .int .i64 l, .int .i64 t, .int .i64 r, .int .i64 b] 72) 72 #[]).drew (Nat.le_succ _))
      have SB := Lib.hid kB.size
      have SC := Lib.hid kC.size
      have AFB := Lib.hid (mkA _ w1.heap.size kB (Nat.le_refl _))
      have AFC := Lib.hid (mkA _ (w1.heap.size + 1) kC (Nat.le_succ _))
      clear mkR mkA kB kC
      have k0 := B0.out.cell 0
      have k1 := B0.out.cell 1
      have k2 := B0.out.cell 2
      have k3 := B0.out.cell 3
      have k4 := B0.out.cell 4
      have e0 := fun o => (B0.out.alloc o).cell 0
      have e1 := fun o => (B0.out.alloc o).cell 1
      have e2 := fun o => (B0.out.alloc o).cell 2
      have e3 := fun o => (B0.out.alloc o).cell 3
      have e4 := fun o => (B0.out.alloc o).cell 4
      simp at k0 k1 k2 k3 k4 e0 e1 e2 e3 e4
      cases ad
      all_goals
        go_region_law (first | (refine step_append_mine _ rfl _ _ 22 rfl w1.heap.size 72 i0 _ 5 40 Try.underlying22 hi hz0 hz1 hz2 rfl (by decide) (.slice (some ⟨w1.heap.size, 0, none⟩) 0 0) 0 [] rfl RB.out ⟨(w1.heap.size + 1), 0, none⟩ 1 1 [.int .i64 sd, .int .i64 l, .int .i64 t, .int .i64 r, .int .i64 b] rfl rfl (World.news_of_block (blk_new1 w1 (.cells #[] 72) 72 #[.int .i64 sd, .int .i64 l, .int .i64 t, .int .i64 r, .int .i64 b]).drew) HON.out (by decide) (by decide) (by decide) SB.out ?_; intro g2 cap2 x2 hown2 hgrow2 hat2 hlt2 hdr2; have AX2 := AFB.out _ hgrow2 hdr2) | (refine step_append_mine _ rfl _ _ 22 rfl w1.heap.size 72 i0 _ 5 40 Try.underlying22 hi hz0 hz1 hz2 rfl (by decide) (.slice (some ⟨(w1.heap.size + 1), 0, none⟩) 0 0) 0 [] rfl RC.out ⟨w1.heap.size, 0, none⟩ 1 1 [.int .i64 sd, .int .i64 l, .int .i64 t, .int .i64 r, .int .i64 b] rfl rfl (World.news_of_block ((Blk.new w1 72 #[.int .i64 sd, .int .i64 l, .int .i64 t, .int .i64 r, .int .i64 b]).alloc (.cells #[] 72)).drew) HON.out (by decide) (by decide) (by decide) SC.out ?_; intro g2 cap2 x2 hown2 hgrow2 hat2 hlt2 hdr2; have AX2 := AFC.out _ hgrow2 hdr2))
        all_goals (go_wp2_with fail; go_meet)
        all_goals
          refine ⟨?_, AX2⟩
          have e1 : flRow ([] ++ [f]) = [] ++ [.int .i64 sd, .int .i64 l, .int .i64 t, .int .i64 r, .int .i64 b] := by rw [List.nil_append, flRow_one, hfc, List.nil_append]
          rw [← e1] at hown2
          exact flsAt_of_row hown2 (by simp)
  case rest =>
    obtain ⟨hall0, hac⟩ := hcut
    have HALL := Lib.hid hall0
    have AC := Lib.hid (A0.out.trans hac)
    have F0 := Lib.hid (B0.out.after hac)
    clear hall0 hac
    cases hfew : fewB (fs ++ [f]) 31 with
    | false =>
      have hF := Lib.hid hfew
      clear hfew
      go_wp2_with fail
      refine (law10_speaks _).mono ?_
      rintro e w1' ⟨rfl, hw1⟩
      go_wp2_with fail
      refine (law09_few (HALL.out.after hw1) 31).mono ?_
      rintro e w2 ⟨rfl, hw2⟩
      rw [hF.out]
      have AX := Lib.hid (AC.out.trans (hw1.trans hw2))
      go_wp2_with fail
      refine (law10_speaks _).mono ?_
      rintro e w9 ⟨rfl, hw9⟩
      go_wp2
      go_ret
      exact ⟨rfl, AX.out.trans hw9⟩
    | true =>
      have hsm : (fs ++ [f]).all smallF = true := by unfold fewB at hfew; simp only [Bool.and_eq_true] at hfew; exact hfew.1
      have hln : fs.length ≤ 30 := by unfold fewB at hfew; simp only [Bool.and_eq_true, decide_eq_true_eq, List.length_append, List.length_cons, List.length_nil] at hfew; have := hfew.2; omega
      cases hsd : (fs ++ [f]).all sideOk with
      | false =>
        have hF := Lib.hid hfew
        have hS := Lib.hid hsd
        clear hfew hsd hsm
        go_wp2_with fail
        refine (law10_speaks _).mono ?_
        rintro e w1' ⟨rfl, hw1⟩
        go_wp2_with fail
        refine (law09_few (HALL.out.after hw1) 31).mono ?_
        rintro e w2 ⟨rfl, hw2⟩
        rw [hF.out]
        go_wp2_with fail
        refine (law10_sides (HALL.out.after (hw1.trans hw2))).mono ?_
        rintro e w3 ⟨rfl, hw3⟩
        rw [hS.out]
        have AX := Lib.hid (AC.out.trans ((hw1.trans hw2).trans hw3))
        go_wp2_with fail
        refine (law10_speaks _).mono ?_
        rintro e w9 ⟨rfl, hw9⟩
        go_wp2
        go_ret
        exact ⟨rfl, AX.out.trans hw9⟩
      | true =>
        have hF := Lib.hid hfew
        have hS := Lib.hid hsd
        have hM := Lib.hid hsm
        clear hfew hsd hsm
        go_wp2_with fail
        refine (law10_speaks _).mono ?_
        rintro e w1' ⟨rfl, hw1⟩
        go_wp2_with fail
        refine (law09_few (HALL.out.after hw1) 31).mono ?_
        rintro e w2 ⟨rfl, hw2⟩
        rw [hF.out]
        go_wp2_with fail
        refine (law10_sides (HALL.out.after (hw1.trans hw2))).mono ?_
        rintro e w3 ⟨rfl, hw3⟩
        rw [hS.out]
        have hwc := Lib.hid ((hw1.trans hw2).trans hw3)
        have AX := Lib.hid (AC.out.trans hwc.out)
        clear hw1 hw2 hw3
        by_cases y1 : 562949953421312 < y
        · go_wp2_with fail
          refine (law10_speaks _).mono ?_
          rintro e w9 ⟨rfl, hw9⟩
          go_wp2
          go_ret
          exact ⟨rfl, AX.out.trans hw9⟩
        · by_cases y2 : y < -562949953421312
          · go_wp2_with fail
            refine (law10_speaks _).mono ?_
            rintro e w9 ⟨rfl, hw9⟩
            go_wp2
            go_ret
            exact ⟨rfl, AX.out.trans hw9⟩
          · by_cases h1 : 562949953421312 < ht
            · go_wp2_with fail
              refine (law10_speaks _).mono ?_
              rintro e w9 ⟨rfl, hw9⟩
              go_wp2
              go_ret
              exact ⟨rfl, AX.out.trans hw9⟩
            · by_cases h2 : ht < -562949953421312
              · go_wp2_with fail
                refine (law10_speaks _).mono ?_
                rintro e w9 ⟨rfl, hw9⟩
                go_wp2
                go_ret
                exact ⟨rfl, AX.out.trans hw9⟩
              · have hallP : fs.all smallF = true := by have := hM.out; rw [List.all_append, Bool.and_eq_true] at this; exact this.1
                have hsdP : fs.all sideOk = true := by have := hS.out; rw [List.all_append, Bool.and_eq_true] at this; exact this.1
                have HAP := Lib.hid hallP
                have HSP := Lib.hid hsdP
                have hi1a : 1 ≤ hi1 ht := by unfold hi1; omega
                have hi1b : hi1 ht ≤ 562949953421312 := by unfold hi1; omega
                have hya : -Far ≤ y := by unfold Far; omega
                have hsub := band_sub (l := fs) (m := fs ++ [f]) (fun g hg => List.mem_append_left _ hg) (a := y) (b := y + hi1 ht) hya
                have habv := Lib.hid (fun (hb : y + hi1 ht ≤ f.t) => band_above fs f (a := y) (b := y + hi1 ht) hya hb)
                obtain ⟨x, hx⟩ : ∃ x, bandOf fs y (y + hi1 ht) = x := ⟨_, rfl⟩
                obtain ⟨x2, hx2⟩ : ∃ x, bandOf (fs ++ [f]) y (y + hi1 ht) = x := ⟨_, rfl⟩
                rw [hx, hx2] at hsub habv
                obtain ⟨p, q⟩ := x
                obtain ⟨p2, q2⟩ := x2
                dsimp only at hsub
                have HX := Lib.hid hx
                have HX2 := Lib.hid hx2
                clear hallP hsdP hya hx hx2
                go_wp2_with fail
                refine (law10_begin (HV.out.after AX.out) HAP.out HSP.out (by omega)).mono ?_
                rintro e w4 ⟨S, L, g, cap, fv, rfl, hs4, hw4⟩
                have S4 := Lib.hid hs4
                clear hs4
                go_wp2_with fail
                refine (law10_begin (HALL.out.after (hwc.out.trans hw4)) hM.out hS.out (by simp; omega)).mono ?_
                rintro e w5 ⟨S', L', g', cap', fv', rfl, hs5, hw5⟩
                have U5 := Lib.hid hs5
                have S5 := Lib.hid (S4.out.after hw5)
                have A5 := Lib.hid (AX.out.trans (hw4.trans hw5))
                have F5 := Lib.hid (F0.out.after (hwc.out.trans (hw4.trans hw5)))
                clear hs5 hw4 hw5
                go_wp2_with fail
                refine (space_rows y ht _ (by omega) (by omega) (by omega) (by omega)).mono ?_
                rintro e w6 ⟨rfl, hw6⟩
                have R8 := Lib.hid (Blk.new w6 34 #[.int .i64 y, .int .i64 (y + hi1 ht)])
                have k68 := hw6.alloc (.cells #[.int .i64 y, .int .i64 (y + hi1 ht)] 34)
                have S8 := Lib.hid (S5.out.after k68)
                have U8 := Lib.hid (U5.out.after k68)
                have A8 := Lib.hid (A5.out.trans k68)
                have F8 := Lib.hid (F5.out.after k68)
                clear hw6 k68
                go_wp2_with fail
                generalize hW8 : w6.alloc (.cells #[.int .i64 y, .int .i64 (y + hi1 ht)] 34) = W8 at R8 S8 U8 A8 F8 ⊢
                clear hW8
                have Cx := fun (w' : World) (k : After W8 w') => space_bounds (S8.out.after k) y (y + hi1 ht) ⟨by omega, by omega⟩ ⟨by omega, by omega⟩
                have Cz := fun (w' : World) (k : After W8 w') => space_bounds (U8.out.after k) y (y + hi1 ht) ⟨by omega, by omega⟩ ⟨by omega, by omega⟩
                rw [HX.out] at Cx
                rw [HX2.out] at Cz
                have CX := Lib.hid Cx
                have CZ := Lib.hid Cz
                clear Cx Cz
                have k0 := R8.out.cell 0
                have k1 := R8.out.cell 1
                simp at k0 k1
                have q0 := fun n os => cell_grown (w := W8) R8.out.lt k0 n os
                have q1 := fun n os => cell_grown (w := W8) R8.out.lt k1 n os
                clear k0 k1
                go_wp2_with fail
                refine wp_region_fresh 8 [(6, .cells #[.int .i64 0, .int .i64 0] 34), (7, .cells #[.int .i64 0, .int .i64 0] 34)] hmix (by kernel_rfl) (lays_of (by decide) (by kernel_rfl) (lays_cons rfl rfl (fun _ => rfl) (al_span _ rfl) (lays_cons rfl rfl (fun _ => rfl) (al_span _ rfl) (fun x hx => by cases hx)))) ?_
                simp only [List.take_succ_cons, List.take_zero, List.drop_succ_cons, List.drop_zero]
                iterate 3 (first
                  | refine wpFresh_al rfl ?_
                  | (refine wpFresh_step rfl (fun KK hKK => ?_)
                     go_simp
                     first
                       | (refine hKK _ ?_; clear hKK KK)
                       | (apply Exists.intro
                          refine ⟨fun p => ?_, hKK _ ?_⟩
                          (go_at_call 36; exact CX.out _ (gw_after _ p))
                          clear hKK KK)))
                iterate 3 (first
                  | refine wpFresh_al rfl ?_
                  | (refine wpFresh_step rfl (fun KK hKK => ?_)
                     go_simp
                     first
                       | (refine hKK _ ?_; clear hKK KK)
                       | (apply Exists.intro
                          refine ⟨fun p => ?_, hKK _ ?_⟩
                          (go_at_call 36; exact CZ.out _ (gw_after _ p))
                          clear hKK KK)))
                iterate 2 (refine wpFresh_al rfl ?_)
                refine wpFresh_nil ?_
                intro P Q wx hL
                obtain ⟨AX9, ⟨b0x, hl0⟩, ⟨b1x, hl1⟩, ne01⟩ := hL.two (by decide)
                have bP : Blk wx P 34 #[.int .i64 0, .int .i64 0] := b0x
                have bQ : Blk wx Q 34 #[.int .i64 0, .int .i64 0] := b1x
                clear hL b0x b1x q0 q1
                have c0 := bP.cell 0
                have c1 := bP.cell 1
                have f0 := bP.frozen 0
                have f1 := bP.frozen 1
                simp at c0 c1
                obtain ⟨wm, hwm⟩ : ∃ wm, (wx.setCell ⟨P, 0, none⟩ (.int .i64 p)).setCell ⟨P, 1, none⟩ (.int .i64 q) = wm := ⟨_, rfl⟩
                have bPm : Blk wm P 34 #[.int .i64 p, .int .i64 q] := hwm ▸ (bP.set_ 0 _).set_ 1 _
                have bQm : Blk wm Q 34 #[.int .i64 0, .int .i64 0] := hwm ▸ (bQ.far (p := ⟨P, 0, none⟩) (Ne.symm ne01) _).far (p := ⟨P, 1, none⟩) (Ne.symm ne01) _
                have AXm : After W8 wm := hwm ▸ (AX9.setCell hl0 _).setCell hl0 _
                have d0 := bQm.cell 0
                have d1 := bQm.cell 1
                have g0 := bQm.frozen 0
                have g1 := bQm.frozen 1
                simp at d0 d1
                obtain ⟨wy, hwy⟩ : ∃ wy, (wm.setCell ⟨Q, 0, none⟩ (.int .i64 p2)).setCell ⟨Q, 1, none⟩ (.int .i64 q2) = wy := ⟨_, rfl⟩
                have HP := Lib.hid (show Blk wy P 34 #[.int .i64 p, .int .i64 q] from hwy ▸ (bPm.far (p := ⟨Q, 0, none⟩) ne01 _).far (p := ⟨Q, 1, none⟩) ne01 _)
                have HQ := Lib.hid (show Blk wy Q 34 #[.int .i64 p2, .int .i64 q2] from hwy ▸ (bQm.set_ 0 _).set_ 1 _)
                have A10 := Lib.hid (show After W8 wy from hwy ▸ (AXm.setCell hl1 _).setCell hl1 _)
                clear bP bQ bPm bQm AX9 AXm ne01
                have n0 := HP.out.cell 0
                have n1 := HP.out.cell 1
                have o0 := HQ.out.cell 0
                have o1 := HQ.out.cell 1
                have r1 := (R8.out.after A10.out).cell 1
                have t2 := (F8.out.after A10.out).cell 2
                simp at n0 n1 o0 o1 r1 t2
                have S10 := Lib.hid (S8.out.after A10.out)
                have U10 := Lib.hid (U8.out.after A10.out)
                by_cases hab : y + hi1 ht ≤ t
                · have heq := habv.out (by have := HF.out; rw [this]; exact hab)
                  obtain ⟨rfl, rfl⟩ : p2 = p ∧ q2 = q := by injection heq with e1 e2; exact ⟨e1, e2⟩
                  clear heq
                  go_wp2_with fail
                  clear hwm hwy c0 c1 f0 f1 d0 d1 g0 g1 hl0 hl1 n0 n1 o0 o1 r1 t2
                  go_loopw [97] (fun v wr => ∃ k : Nat, v = .int .i64 (k : Int) ∧ k ≤ 4 ∧ After wy wr) (fun v _ => 5 - (intOf v).toNat)
                  case atStart => exact ⟨0, rfl, by decide, After.refl _⟩
                  case round =>
                    obtain ⟨k, rfl, hk, hwr⟩ := hrel
                    have HW := Lib.hid hwr
                    clear hwr
                    by_cases hlt : k < 4
                    · have hmon := clearOf_more (k : Int) y fs f
                      obtain ⟨ca, hca⟩ : ∃ c, clearOf (k : Int) y fs = c := ⟨_, rfl⟩
                      obtain ⟨cb, hcb⟩ : ∃ c, clearOf (k : Int) y (fs ++ [f]) = c := ⟨_, rfl⟩
                      have Ca := fun (w' : World) (k2 : After wy w') => space_clear (S10.out.after k2) (k : Int) y
                      have Cb := fun (w' : World) (k2 : After wy w') => space_clear (U10.out.after k2) (k : Int) y
                      rw [hca] at Ca
                      rw [hcb] at Cb
                      rw [hca, hcb] at hmon
                      have CA := Lib.hid Ca
                      have CB := Lib.hid Cb
                      clear Ca Cb hca hcb
                      go_wp2_with fail
                      refine (CB.out _ HW.out).mono ?_
                      rintro e w11 ⟨rfl, hw11⟩
                      go_wp2_with fail
                      refine (CA.out _ (HW.out.trans hw11)).mono ?_
                      rintro e w12 ⟨rfl, hw12⟩
                      have HW2 := Lib.hid (HW.out.trans (hw11.trans hw12))
                      clear hw11 hw12
                      go_wp2_with fail
                      go_roundw
                      case rel => exact ⟨k + 1, by go_num, by omega, HW2.out⟩
                      case measure => simp [intOf]; omega
                    · obtain ⟨tl, htl, hge⟩ := lastOf_more fs f
                      have CL0 := space_last (U10.out.after HW.out)
                      rw [htl] at CL0
                      simp only [eAt, Option.getD_some, Option.isSome_some] at CL0
                      have CL := Lib.hid CL0
                      have hge2 : t ≤ tl := by have := HF.out; rw [this] at hge; exact hge
                      clear CL0 htl hge
                      go_wp2_with fail
                      refine (CL.out).mono ?_
                      rintro e w11 ⟨rfl, hw11⟩
                      have t2 := (F8.out.after (A10.out.trans (HW.out.trans hw11))).cell 2
                      simp at t2
                      go_wp2_with fail
                      go_ret
                      exact ⟨ret_bool (by first | rfl | simp [hge2]), A8.out.trans (A10.out.trans (HW.out.trans hw11))⟩
                · go_wp2_with fail
                  clear hwm hwy c0 c1 f0 f1 d0 d1 g0 g1 hl0 hl1 n0 n1 o0 o1 r1 t2
                  go_loopw [97] (fun v wr => ∃ k : Nat, v = .int .i64 (k : Int) ∧ k ≤ 4 ∧ After wy wr) (fun v _ => 5 - (intOf v).toNat)
                  case atStart => exact ⟨0, rfl, by decide, After.refl _⟩
                  case round =>
                    obtain ⟨k, rfl, hk, hwr⟩ := hrel
                    have HW := Lib.hid hwr
                    clear hwr
                    by_cases hlt : k < 4
                    · have hmon := clearOf_more (k : Int) y fs f
                      obtain ⟨ca, hca⟩ : ∃ c, clearOf (k : Int) y fs = c := ⟨_, rfl⟩
                      obtain ⟨cb, hcb⟩ : ∃ c, clearOf (k : Int) y (fs ++ [f]) = c := ⟨_, rfl⟩
                      have Ca := fun (w' : World) (k2 : After wy w') => space_clear (S10.out.after k2) (k : Int) y
                      have Cb := fun (w' : World) (k2 : After wy w') => space_clear (U10.out.after k2) (k : Int) y
                      rw [hca] at Ca
                      rw [hcb] at Cb
                      rw [hca, hcb] at hmon
                      have CA := Lib.hid Ca
                      have CB := Lib.hid Cb
                      clear Ca Cb hca hcb
                      go_wp2_with fail
                      refine (CB.out _ HW.out).mono ?_
                      rintro e w11 ⟨rfl, hw11⟩
                      go_wp2_with fail
                      refine (CA.out _ (HW.out.trans hw11)).mono ?_
                      rintro e w12 ⟨rfl, hw12⟩
                      have HW2 := Lib.hid (HW.out.trans (hw11.trans hw12))
                      clear hw11 hw12
                      go_wp2_with fail
                      go_roundw
                      case rel => exact ⟨k + 1, by go_num, by omega, HW2.out⟩
                      case measure => simp [intOf]; omega
                    · obtain ⟨tl, htl, hge⟩ := lastOf_more fs f
                      have CL0 := space_last (U10.out.after HW.out)
                      rw [htl] at CL0
                      simp only [eAt, Option.getD_some, Option.isSome_some] at CL0
                      have CL := Lib.hid CL0
                      have hge2 : t ≤ tl := by have := HF.out; rw [this] at hge; exact hge
                      clear CL0 htl hge
                      go_wp2_with fail
                      refine (CL.out).mono ?_
                      rintro e w11 ⟨rfl, hw11⟩
                      have t2 := (F8.out.after (A10.out.trans (HW.out.trans hw11))).cell 2
                      simp at t2
                      go_wp2_with fail
                      go_ret
                      exact ⟨ret_bool (by first | rfl | simp [hge2]), A8.out.trans (A10.out.trans (HW.out.trans hw11))⟩
end Go.Proofs.Ytefbeekjoafijaa
