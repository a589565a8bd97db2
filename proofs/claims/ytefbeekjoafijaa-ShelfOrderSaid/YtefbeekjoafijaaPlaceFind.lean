/- place.Find. -/
import Derived.Test.YtefbeekjoafijaaPlaceAt
namespace Go.Proofs.Ytefbeekjoafijaa
open Go.RowKit Go.Sort
set_option linter.unusedVariables false
set_option linter.unusedSimpArgs false
attribute [local irreducible] wpQuiet

/-! ### where the seeking starts -/
theorem reachE_mem {e : Option Int} {n v : Int} (h : reachE e n = some v) : v = n ∨ e = some v := by
  cases e with
  | none => left; unfold reachE at h; simp at h; exact h.symm
  | some a =>
    unfold reachE at h
    simp only [Option.some.injEq] at h
    split at h
    · left; exact h.symm
    · right; rw [h]
theorem lastOf_mem (fs : List Flt) : ∀ v, lastOf fs = some v → ∃ f ∈ fs, f.t = v := by
  induction fs using snoc_ind0 with
  | nil => intro v h; simp [lastOf] at h
  | snoc l f ih =>
    intro v h
    rw [lastOf_snoc] at h
    rcases reachE_mem h with e | e
    · exact ⟨f, by simp, e.symm⟩
    · obtain ⟨g, hg, e'⟩ := ih v e; exact ⟨g, by simp [hg], e'⟩
theorem botOf_mem (c : Int) (fs : List Flt) : ∀ v, botOf c fs = some v → ∃ f ∈ fs, f.b = v := by
  induction fs using snoc_ind0 with
  | nil => intro v h; simp [botOf] at h
  | snoc l f ih =>
    intro v h
    rw [botOf_snoc] at h
    split at h
    · rcases reachE_mem h with e | e
      · exact ⟨f, by simp, e.symm⟩
      · obtain ⟨g, hg, e'⟩ := ih v e; exact ⟨g, by simp [hg], e'⟩
    · obtain ⟨g, hg, e'⟩ := ih v h; exact ⟨g, by simp [hg], e'⟩
theorem small_tb {fs : List Flt} (hall : fs.all smallF = true) {f : Flt} (hf : f ∈ fs) : f.t ≤ 2251799813685248 ∧ f.b ≤ 2251799813685248 := by
  have := List.all_eq_true.1 hall f hf
  unfold smallF small4 at this
  simp [in1] at this
  omega
theorem clearOf_range {fs : List Flt} (hall : fs.all smallF = true) (c y : Int) : y ≤ clearOf c y fs ∧ (clearOf c y fs = y ∨ clearOf c y fs ≤ 2251799813685248) := by
  unfold clearOf
  cases hb : bottomOf c fs with
  | none => exact ⟨Int.le_refl _, .inl rfl⟩
  | some b =>
    have : b ≤ 2251799813685248 := by
      unfold bottomOf at hb
      split at hb
      · cases hb
      · obtain ⟨f, hf, e⟩ := botOf_mem c fs b hb
        have := (small_tb hall hf).2
        omega
    show y ≤ max y b ∧ (max y b = y ∨ max y b ≤ 2251799813685248)
    omega
theorem startP_range {fs : List Flt} (hall : fs.all smallF = true) (c : Int) {y : Int} (hy : L48 y) : y ≤ startP fs c y ∧ startP fs c y ≤ 2251799813685248 := by
  have h1 := clearOf_range hall c y
  unfold L48 at hy
  unfold startP
  cases hl : lastOf fs with
  | none => show y ≤ clearOf c y fs ∧ clearOf c y fs ≤ 2251799813685248; omega
  | some t =>
    obtain ⟨f, hf, e⟩ := lastOf_mem fs t hl
    have := (small_tb hall hf).1
    show y ≤ max (clearOf c y fs) t ∧ max (clearOf c y fs) t ≤ 2251799813685248
    omega

/-! ### the closure -/
def gotP (fs : List Flt) (side a b wd ht z : Int) : Int := if fitsP side a b wd (bandAt fs z ht) = true then leftP side a b wd (bandAt fs z ht) else 0
def keptP (fs : List Flt) (side a b wd ht : Int) (asked : List Int) : Int := match asked.getLast? with | none => 0 | some z => gotP fs side a b wd ht z
theorem keptP_snoc (fs : List Flt) (side a b wd ht : Int) (asked : List Int) (z : Int) : keptP fs side a b wd ht (asked ++ [z]) = gotP fs side a b wd ht z := by
  unfold keptP
  rw [List.getLast?_append]
  rfl

structure FindP (w1 : World) (base S L g cap : Nat) (fv : Value) (fs : List Flt) (B2 B3 K : Nat) (side clear a b wd ht y : Int) (asked : List Int) (w' : World) : Prop where
  sp : SpaceAt w' base S L g cap fv fs
  bs : Blk w' B2 38 #[.pointer (some ⟨S, 0, none⟩)]
  bw : Blk w' B3 96 #[.int .i64 side, .int .i64 clear, .int .i64 a, .int .i64 b, .int .i64 wd, .int .i64 ht, .int .i64 y]
  bk : Blk w' K 3 #[.int .i64 (keptP fs side a b wd ht asked)]
  only : Only w1 w' (· = K)

theorem FindP.after {w1 : World} {base S L g cap : Nat} {fv : Value} {fs : List Flt} {B2 B3 K : Nat} {side clear a b wd ht y : Int} {asked : List Int} {w' w'' : World} (h : FindP w1 base S L g cap fv fs B2 B3 K side clear a b wd ht y asked w') (k : After w' w'') :
    FindP w1 base S L g cap fv fs B2 B3 K side clear a b wd ht y asked w'' := ⟨h.sp.after k, h.bs.after k, h.bw.after k, h.bk.after k, h.only.then_after k⟩

theorem findP_so {w1 : World} {base S L g cap : Nat} {fv : Value} {fs : List Flt} {B2 B3 K : Nat} (hall : fs.all smallF = true) {side clear a b wd ht y : Int} (hs : side = 1 ∨ side = 2) (ha : L48 a) (hb : L48 b) (hw : L48 wd) (hh : L48 ht) (z : Int) (asked : List Int) (w' : World) (hz : -Far ≤ z ∧ z ≤ Far)
    (hi : FindP w1 base S L g cap fv fs B2 B3 K side clear a b wd ht y asked w') :
    Calls Try.prog 85 (#[] ++ #[.int .i64 z] ++ #[.pointer (some ⟨B2, 0, none⟩), .pointer (some ⟨B3, 0, none⟩), .pointer (some ⟨K, 0, none⟩)]) w' (fun e w'' => e = .returned (.bool (fitsP side a b wd (bandAt fs z ht))) ∧ FindP w1 base S L g cap fv fs B2 B3 K side clear a b wd ht y (asked ++ [z]) w'') := by
  obtain ⟨ok, hok⟩ : ∃ ok, fitsP side a b wd (bandAt fs z ht) = ok := ⟨_, rfl⟩
  obtain ⟨r, hr⟩ : ∃ r, gotP fs side a b wd ht z = r := ⟨_, rfl⟩
  have hr' : (if ok = true then leftP side a b wd (bandAt fs z ht) else 0) = r := by rw [← hok]; exact hr
  have CA := Lib.hid (fun (w'' : World) (k : After w' w'') => place_at (clear := clear) (y := y) (hi.sp.after k) hall hs ha hb hw hh z hz hok hr')
  have hap := hi.sp.apart hi.bk (by decide) (by decide) (by decide) (by decide)
  have hK2 : B2 ≠ K := hi.bs.ne_ hi.bk (by decide)
  have hK3 : B3 ≠ K := hi.bw.ne_ hi.bk (by decide)
  have c0 := hi.bs.cell 0
  have k0 := hi.bw.cell 0
  have k1 := hi.bw.cell 1
  have k2 := hi.bw.cell 2
  have k3 := hi.bw.cell 3
  have k4 := hi.bw.cell 4
  have k5 := hi.bw.cell 5
  have k6 := hi.bw.cell 6
  simp at c0 k0 k1 k2 k3 k4 k5 k6
  have HI := Lib.hid hi
  have HR := Lib.hid hr
  rw [hok]
  clear hi hok hr hr' hs ha hb hw hh
  show Calls Try.prog 85 #[.int .i64 z, .pointer (some ⟨B2, 0, none⟩), .pointer (some ⟨B3, 0, none⟩), .pointer (some ⟨K, 0, none⟩)] w' _
  go_enter Try.func85, Try.ntmps85
  go_wp2_with fail
  refine (CA.out _ (After.refl _)).mono ?_
  rintro e w2 ⟨rfl, hw2⟩
  have HI2 := Lib.hid (HI.out.after hw2)
  have n0 := HI2.out.bk.cell 0
  have g0 := HI2.out.bk.frozen 0
  simp at n0
  clear c0 k0 k1 k2 k3 k4 k5 k6 hw2
  go_wp2_with fail
  go_ret
  refine ⟨rfl, HI2.out.sp.only (Only.setCell w2 ⟨K, 0, none⟩ _) (fun i hi e => hap (show owns S L g fv K from (show i = K from e) ▸ hi)), HI2.out.bs.far (p := ⟨K, 0, none⟩) hK2 _, HI2.out.bw.far (p := ⟨K, 0, none⟩) hK3 _, ?_, HI2.out.only.trans (Only.setCell w2 ⟨K, 0, none⟩ _) (fun _ _ h => h)⟩
  rw [keptP_snoc, HR.out]
  exact HI2.out.bk.set_ 0 _

/-! ### Find -/
theorem blk_new1 (w : World) (o : Obj) (t : TypeId) (c : Array Value) : Blk ((w.alloc o).alloc (.cells c t)) (w.heap.size + 1) t c := by
  have := Blk.new (w.alloc o) t c
  rwa [World.size_alloc] at this
theorem blk_new2 (w : World) (o o' : Obj) (t : TypeId) (c : Array Value) : Blk (((w.alloc o).alloc o').alloc (.cells c t)) (w.heap.size + 1 + 1) t c := by
  have := Blk.new ((w.alloc o).alloc o') t c
  rwa [World.size_alloc, World.size_alloc] at this
theorem blk_new3 (w : World) (o o' o2 : Obj) (t : TypeId) (c : Array Value) : Blk ((((w.alloc o).alloc o').alloc o2).alloc (.cells c t)) (w.heap.size + 1 + 1 + 1) t c := by
  have := Blk.new (((w.alloc o).alloc o').alloc o2) t c
  rwa [World.size_alloc, World.size_alloc, World.size_alloc] at this

theorem findP_at {fs : List Flt} (hall : fs.all smallF = true) {side clear a b wd ht y : Int} (hs : side = 1 ∨ side = 2) (ha : L48 a) (hb : L48 b) (hw : L48 wd) (hy : L48 y) :
    startP fs clear y ≤ firstOf fs ht (fitsP side a b wd) (startP fs clear y) ∧ fitsP side a b wd (bandAt fs (firstOf fs ht (fitsP side a b wd) (startP fs clear y)) ht) = true ∧
    ∀ z, startP fs clear y ≤ z → z < firstOf fs ht (fitsP side a b wd) (startP fs clear y) → fitsP side a b wd (bandAt fs z ht) = false := by
  have h := startP_range hall clear hy
  have hy' := hy
  unfold L48 at hy'
  exact firstOf_spec (fitsP_fair fs ht hs ha hb hw) (by unfold Far; omega)

theorem findP_range {fs : List Flt} (hall : fs.all smallF = true) (ht clear : Int) (q : Int × Int → Bool) {y : Int} (hy : L48 y) : -Far ≤ firstOf fs ht q (startP fs clear y) ∧ firstOf fs ht q (startP fs clear y) ≤ 2251799813685248 := by
  have h := startP_range hall clear hy
  have h2 := firstOf_ok hall ht q (startP fs clear y)
  unfold L48 at hy
  unfold Far at h2 ⊢
  omega

theorem leftP_range {fs : List Flt} (hall : fs.all smallF = true) {side a b wd ht z : Int} (hs : side = 1 ∨ side = 2) (ha : L48 a) (hb : L48 b) (hw : L48 wd) (hz : -Far ≤ z) : -4785074604081152 ≤ leftP side a b wd (bandAt fs z ht) ∧ leftP side a b wd (bandAt fs z ht) ≤ 4785074604081152 := by
  have := band_nr hall ht hz
  unfold L48 at ha hb hw
  unfold Far at this
  unfold leftP
  rcases hs with rfl | rfl
  · rw [atL_1]; omega
  · rw [atL_2]; omega

set_option maxRecDepth 100000 in
set_option maxHeartbeats 4000000 in
theorem place_find {w : World} {base S L g cap : Nat} {fv : Value} {fs : List Flt} (h : SpaceAt w base S L g cap fv fs) (hall : fs.all smallF = true) {side clear a b wd ht y z x : Int} (hs : side = 1 ∨ side = 2) (ha : L48 a) (hb : L48 b) (hw : L48 wd) (hh : L48 ht) (hy : L48 y)
    (hz : firstOf fs ht (fitsP side a b wd) (startP fs clear y) = z) (hx : leftP side a b wd (bandAt fs z ht) = x) :
    Calls Try.prog 60 #[.pointer (some ⟨S, 0, none⟩), .agg #[.int .i64 side, .int .i64 clear, .int .i64 a, .int .i64 b, .int .i64 wd, .int .i64 ht, .int .i64 y]] w (Ret (.agg #[.int .i64 x, .int .i64 z, .int .i64 (x + wd), .int .i64 (z + ht)]) w) := by
  have hmix := mixed
  have hst := startP_range hall clear hy
  have hzr := findP_range hall ht clear (fitsP side a b wd) hy
  have hzt := (findP_at (clear := clear) (ht := ht) hall hs ha hb hw hy).2.1
  rw [hz] at hzr hzt
  have hxr := leftP_range (ht := ht) hall hs ha hb hw hzr.1
  rw [hx] at hxr
  have hgot : gotP fs side a b wd ht z = x := by unfold gotP; rw [if_pos hzt]; exact hx
  have HGOT := Lib.hid hgot
  have HZ := Lib.hid hz
  have HSO := Lib.hid (fun (w5 : World) (B2 B3 K : Nat) (z : Int) (asked : List Int) (w' : World) (hz : -Far ≤ z ∧ z ≤ Far) (hi : FindP w5 base S L g cap fv fs B2 B3 K side clear a b wd ht y asked w') => findP_so hall hs ha hb hw hh z asked w' hz hi)
  have HTN := Lib.hid (fun (s : Sh) (hs : s ∈ shelvesOf fs) => show -Far ≤ s.top ∧ s.top ≤ Far by have := tops_near hall s hs; unfold Far at *; omega)
  have H := Lib.hid h
  have hy' := hy
  have hw' := hw
  have hh' := hh
  unfold L48 at hy' hw' hh'
  unfold Far at hzr
  have hstr : -Far ≤ startP fs clear y ∧ startP fs clear y ≤ Far := by unfold Far; omega
  have HST := Lib.hid hstr
  clear h hz hx hgot hst hstr hzt hs ha hb hy hall
  have hw1 : IntKind.i64.wrap (x + wd) = x + wd := by rw [IntKind.wrap_i64]; omega
  have hw2 : IntKind.i64.wrap (z + ht) = z + ht := by rw [IntKind.wrap_i64]; omega
  go_enter Try.func60, Try.ntmps60
  go_wp2_with fail
  refine name_world (fun w4 hW => ?_)
  have A4 : After w w4 := by rw [hW]; exact ((((After.refl w).alloc _).alloc _).alloc _).alloc _
  have B0 : Blk w4 w.heap.size 38 #[.pointer (some ⟨S, 0, none⟩)] := by rw [hW]; exact (((Blk.new w _ _).alloc _).alloc _).alloc _
  have B1 : Blk w4 (w.heap.size + 1) 96 #[.int .i64 side, .int .i64 clear, .int .i64 a, .int .i64 b, .int .i64 wd, .int .i64 ht, .int .i64 y] := by rw [hW]; exact ((blk_new1 w _ _ _).alloc _).alloc _
  have B2 : Blk w4 (w.heap.size + 1 + 1) 59 #[.int .i64 0, .int .i64 0, .int .i64 0, .int .i64 0] := by rw [hW]; exact (blk_new2 w _ _ _ _).alloc _
  have B3 : Blk w4 (w.heap.size + 1 + 1 + 1) 3 #[.int .i64 0] := by rw [hW]; exact blk_new3 w _ _ _ _ _
  clear hW
  have HB0 := Lib.hid B0
  have HB1 := Lib.hid B1
  have HB2 := Lib.hid B2
  have HB3 := Lib.hid B3
  have HA4 := Lib.hid A4
  have c0 := B0.cell 0
  have k0 := B1.cell 0
  have k1 := B1.cell 1
  have k2 := B1.cell 2
  have k3 := B1.cell 3
  have k4 := B1.cell 4
  have k5 := B1.cell 5
  have k6 := B1.cell 6
  simp at c0 k0 k1 k2 k3 k4 k5 k6
  have q := fun n os => cell_grown (w := w4) B0.lt c0 n os
  have q0 := fun n os => cell_grown (w := w4) B1.lt k0 n os
  have q1 := fun n os => cell_grown (w := w4) B1.lt k1 n os
  have q2 := fun n os => cell_grown (w := w4) B1.lt k2 n os
  have q3 := fun n os => cell_grown (w := w4) B1.lt k3 n os
  have q4 := fun n os => cell_grown (w := w4) B1.lt k4 n os
  have q5 := fun n os => cell_grown (w := w4) B1.lt k5 n os
  have q6 := fun n os => cell_grown (w := w4) B1.lt k6 n os
  clear c0 k0 k1 k2 k3 k4 k5 k6 A4 B0 B1 B2 B3
  refine wp_region_quiet_tail 5 hmix (by kernel_rfl) ?_
  simp only [List.take_succ_cons, List.take_zero, List.drop_succ_cons, List.drop_zero]
  repeat (quiet_step ((go_at_call 62; exact Calls.grown_after (place_start (H.out.after (HA4.out.trans (After.of_grown _ _))) _ _ _ _ _ _ _))))
  refine wpQuiet_nil ?_
  rintro _ ⟨p, rfl⟩
  generalize hw5 : grow (w4.drewN p.n) p.os = w5
  have A5 := Lib.hid (show After w4 w5 from hw5 ▸ After.of_grown _ _)
  clear hw5 q q0 q1 q2 q3 q4 q5 q6
  have I5 : FindP w5 base S L g cap fv fs w.heap.size (w.heap.size + 1) (w.heap.size + 1 + 1 + 1) side clear a b wd ht y [] w5 := ⟨H.out.after (HA4.out.trans A5.out), HB0.out.after A5.out, HB1.out.after A5.out, HB3.out.after A5.out, Only.refl _ _⟩
  have C := Lib.hid (first_any (fun z => fitsP side a b wd (bandAt fs z ht)) (fun z => -Far ≤ z ∧ z ≤ Far) (FindP w5 base S L g cap fv fs w.heap.size (w.heap.size + 1) (w.heap.size + 1 + 1 + 1) side clear a b wd ht y) 85 #[] #[.pointer (some ⟨w.heap.size, 0, none⟩), .pointer (some ⟨w.heap.size + 1, 0, none⟩), .pointer (some ⟨w.heap.size + 1 + 1 + 1, 0, none⟩)]
    (enters (fn := Try.f85) (by kernel_rfl) (by kernel_rfl) rfl) (fun _ _ h => h.sp) (fun _ _ _ h k => h.after k)
    (fun z asked w' hz hi => HSO.out w5 _ _ _ z asked w' hz hi) HTN.out I5 (startP fs clear y) HST.out)
  clear I5
  go_wp2_with fail
  refine C.out.mono ?_
  rintro e w6 ⟨rfl, hi6⟩
  have HK6 := hi6.bk
  have hkept : keptP fs side a b wd ht (askedY (fun z => fitsP side a b wd (bandAt fs z ht)) (topsBelow (startP fs clear y) (shelvesOf fs)) (startP fs clear y)) = x := by
    unfold keptP
    rw [askedY_last]
    rw [show firstY (fun z => fitsP side a b wd (bandAt fs z ht)) (topsBelow (startP fs clear y) (shelvesOf fs)) (startP fs clear y) = z from HZ.out]
    exact HGOT.out
  rw [hkept] at HK6
  rw [show firstY (fun z => fitsP side a b wd (bandAt fs z ht)) (topsBelow (startP fs clear y) (shelvesOf fs)) (startP fs clear y) = z from HZ.out]
  have R6 := Lib.hid ((HB2.out.after A5.out).only hi6.only (show ¬ w.heap.size + 1 + 1 = w.heap.size + 1 + 1 + 1 by omega))
  have A6 := Lib.hid (show After w w6 from (((HA4.out.trans A5.out).only _).trans hi6.only (fun _ _ h => h)).after_of (fun k hk e => by omega))
  have k0 := HK6.cell 0
  have k4 := hi6.bw.cell 4
  have k5 := hi6.bw.cell 5
  simp at k0 k4 k5
  clear hkept C hi6 HK6
  go_wp2_with fail
  refine (rect_of _ _ _ _ _).mono ?_
  rintro e w7 ⟨rfl, hw7⟩
  have R7 := R6.out.after hw7
  have A7 := A6.out.trans hw7
  have m0 := R7.cell 0
  have m1 := R7.cell 1
  have m2 := R7.cell 2
  have m3 := R7.cell 3
  have f0 := R7.frozen 0
  have f1 := R7.frozen 1
  have f2 := R7.frozen 2
  have f3 := R7.frozen 3
  simp at m0 m1 m2 m3
  obtain ⟨w8, hw8⟩ : ∃ w8, (((w7.setCell ⟨w.heap.size + 1 + 1, 0, none⟩ (.int .i64 x)).setCell ⟨w.heap.size + 1 + 1, 1, none⟩ (.int .i64 z)).setCell ⟨w.heap.size + 1 + 1, 2, none⟩ (.int .i64 (x + wd))).setCell ⟨w.heap.size + 1 + 1, 3, none⟩ (.int .i64 (z + ht)) = w8 := ⟨_, rfl⟩
  have hge : w.heap.size ≤ w.heap.size + 1 + 1 := by omega
  have A8 : After w w8 := hw8 ▸ (((A7.setCell hge _).setCell hge _).setCell hge _).setCell hge _
  have R8 : Blk w8 (w.heap.size + 1 + 1) 59 #[.int .i64 x, .int .i64 z, .int .i64 (x + wd), .int .i64 (z + ht)] := hw8 ▸ (((R7.set_ 0 _).set_ 1 _).set_ 2 _).set_ 3 _
  have HA8 := Lib.hid A8
  have n0 := R8.cell 0
  have n1 := R8.cell 1
  have n2 := R8.cell 2
  have n3 := R8.cell 3
  simp at n0 n1 n2 n3
  clear A8 R8 R7 A7 hge hw7 k0 k4 k5
  go_wp2_with fail
  exact bodyPost_ret (v := .agg #[.int .i64 x, .int .i64 z, .int .i64 (x + wd), .int .i64 (z + ht)]) (by simp [results, Try.results60, go_sem, n0, n1, n2, n3]) rfl ⟨rfl, HA8.out⟩
end Go.Proofs.Ytefbeekjoafijaa
