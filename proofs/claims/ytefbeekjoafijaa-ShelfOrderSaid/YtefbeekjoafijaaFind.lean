/- avoid.At, avoid.Find. -/
import Derived.Test.YtefbeekjoafijaaFits
namespace Go.Proofs.Ytefbeekjoafijaa
open Go.RowKit Go.Sort
attribute [local irreducible] wpQuiet

theorem firstY_mem (so : Int → Bool) : ∀ (ts : List Int) (y : Int), firstY so ts y ∈ y :: ts
  | [], y => by simp [firstY]
  | t :: ts, y => by
    unfold firstY
    split
    · simp
    · exact List.mem_cons_of_mem _ (firstY_mem so ts t)

theorem firstOf_ok {fs : List Flt} (hall : fs.all smallF = true) (ht : Int) (q : Int × Int → Bool) (y : Int) : firstOf fs ht q y = y ∨ (-Far ≤ firstOf fs ht q y ∧ firstOf fs ht q y ≤ 2251799813685248) := by
  rcases List.mem_cons.1 (firstY_mem (fun z => q (bandAt fs z ht)) (topsBelow y (shelvesOf fs)) y) with h | h
  · exact .inl h
  · right
    obtain ⟨s, hs, e⟩ := topsBelow_mem h
    have := tops_near hall s hs
    unfold firstOf
    rw [← e]; exact this

set_option maxHeartbeats 2000000 in
theorem avoid_at {w : World} {base S L g cap : Nat} {fv : Value} {fs : List Flt} (h : SpaceAt w base S L g cap fv fs) (hall : fs.all smallF = true) {a b wd ht fr : Int} (ha : L48 a) (hb : L48 b) (hw : L48 wd) (hh : L48 ht) (y : Int) (hy : -Far ≤ y ∧ y ≤ Far) :
    Calls Try.prog 55 #[.pointer (some ⟨S, 0, none⟩), .agg #[.int .i64 a, .int .i64 b, .int .i64 wd, .int .i64 ht, .int .i64 fr], .int .i64 y] w
      (Ret (.tuple #[.int .i64 (if fitsQ a b wd (bandAt fs y ht) then max a (bandAt fs y ht).1 else 0), .bool (fitsQ a b wd (bandAt fs y ht))]) w) := by
  have H := Lib.hid h
  have b2 := Blk.new (w.alloc (.cells #[.int .i64 a, .int .i64 b, .int .i64 wd, .int .i64 ht, .int .i64 fr] 62)) 115 #[.int .i64 a, .int .i64 b, .int .i64 wd, .int .i64 ht, .int .i64 fr, .pointer (some ⟨S, 0, none⟩), .int .i64 0]
  rw [World.size_alloc] at b2
  have A2 := ((After.refl w).alloc (.cells #[.int .i64 a, .int .i64 b, .int .i64 wd, .int .i64 ht, .int .i64 fr] 62)).alloc (.cells #[.int .i64 a, .int .i64 b, .int .i64 wd, .int .i64 ht, .int .i64 fr, .pointer (some ⟨S, 0, none⟩), .int .i64 0] 115)
  have C := Lib.hid (fits_any (K := w.heap.size + 1) (lf := 0) (fr := fr) (h.after A2) hall b2 ha hb hw hh y hy)
  have HA := Lib.hid A2
  clear h b2 A2
  generalize bandAt fs y ht = x at C ⊢
  cases hq : fitsQ a b wd x with
  | true =>
    have HQ := Lib.hid hq
    clear hq
    go_enter Try.func55, Try.ntmps55
    go_wp2_with fail
    refine C.out.mono ?_
    rintro e w1 ⟨rfl, bk, O1⟩
    rw [HQ.out]
    have k6 := bk.cell 6
    simp [kCells] at k6
    have A1 := Lib.hid (((HA.out.only _).trans O1 (fun _ _ h => h)).after_of (fun k hk e => by omega))
    clear O1 bk
    go_wp2_with fail
    go_ret2
    exact ⟨rfl, A1.out⟩
  | false =>
    have HQ := Lib.hid hq
    clear hq
    go_enter Try.func55, Try.ntmps55
    go_wp2_with fail
    refine C.out.mono ?_
    rintro e w1 ⟨rfl, bk, O1⟩
    rw [HQ.out]
    have A1 := Lib.hid (((HA.out.only _).trans O1 (fun _ _ h => h)).after_of (fun k hk e => by omega))
    clear O1 bk
    go_wp2_with fail
    go_ret2
    exact ⟨rfl, A1.out⟩

/-- what the seeker kept of what was asked -/
def keptL (fs : List Flt) (a ht : Int) (asked : List Int) : Int := match asked.getLast? with | none => 0 | some z => max a (bandAt fs z ht).1

def FindI (w1 : World) (base S L g cap : Nat) (fv : Value) (fs : List Flt) (K : Nat) (a b wd ht fr : Int) (asked : List Int) (w' : World) : Prop :=
  SpaceAt w' base S L g cap fv fs ∧ Blk w' K 115 (kCells a b wd ht fr S (keptL fs a ht asked)) ∧ Only w1 w' (· = K)

theorem keptL_snoc (fs : List Flt) (a ht : Int) (asked : List Int) (z : Int) : keptL fs a ht (asked ++ [z]) = max a (bandAt fs z ht).1 := by
  unfold keptL
  rw [List.getLast?_append]
  rfl
theorem keptL_asked (fs : List Flt) (a b wd ht y : Int) : keptL fs a ht (askedY (fun z => fitsQ a b wd (bandAt fs z ht)) (topsBelow y (shelvesOf fs)) y) = max a (bandAt fs (firstOf fs ht (fitsQ a b wd) y) ht).1 := by
  unfold keptL
  rw [askedY_last]
  rfl

theorem find_so {w1 : World} {base S L g cap : Nat} {fv : Value} {fs : List Flt} {K : Nat} (hall : fs.all smallF = true) {a b wd ht fr : Int} (ha : L48 a) (hb : L48 b) (hw : L48 wd) (hh : L48 ht) (z : Int) (asked : List Int) (w' : World) (hz : -Far ≤ z ∧ z ≤ Far)
    (hi : FindI w1 base S L g cap fv fs K a b wd ht fr asked w') :
    Calls Try.prog 76 (#[.pointer (some ⟨K, 0, none⟩)] ++ #[.int .i64 z] ++ #[]) w' (fun e w'' => e = .returned (.bool (fitsQ a b wd (bandAt fs z ht))) ∧ FindI w1 base S L g cap fv fs K a b wd ht fr (asked ++ [z]) w'') := by
  obtain ⟨hs, hk, ho⟩ := hi
  have hap := hs.apart hk (by decide) (by decide) (by decide) (by decide)
  refine (fits_any hs hall hk ha hb hw hh z hz).mono ?_
  rintro e w'' ⟨he, bk, O⟩
  refine ⟨he, hs.only O (fun i hi e => hap (e ▸ hi)), ?_, ho.trans O (fun _ _ h => h)⟩
  rw [keptL_snoc]; exact bk

set_option maxRecDepth 100000 in
set_option maxHeartbeats 4000000 in
theorem avoid_find {w : World} {base S L g cap : Nat} {fv : Value} {fs : List Flt} (h : SpaceAt w base S L g cap fv fs) (hall : fs.all smallF = true) {a b wd ht fr : Int} (ha : L48 a) (hb : L48 b) (hw : L48 wd) (hh : L48 ht) (hf : L48 fr) :
    Calls Try.prog 41 #[.pointer (some ⟨S, 0, none⟩), .agg #[.int .i64 a, .int .i64 b, .int .i64 wd, .int .i64 ht, .int .i64 fr]] w
      (Ret (.agg #[.int .i64 (max a (bandAt fs (firstOf fs ht (fitsQ a b wd) fr) ht).1), .int .i64 (firstOf fs ht (fitsQ a b wd) fr), .int .i64 (max a (bandAt fs (firstOf fs ht (fitsQ a b wd) fr) ht).1 + wd), .int .i64 (firstOf fs ht (fitsQ a b wd) fr + ht)]) w) := by
  have hmix := mixed
  have hy0 := firstOf_ok hall ht (fitsQ a b wd) fr
  have hf' := hf
  have ha' := ha
  unfold L48 at hf' ha'
  have hyr : -Far ≤ firstOf fs ht (fitsQ a b wd) fr ∧ firstOf fs ht (fitsQ a b wd) fr ≤ Far := by unfold Far at hy0 ⊢; omega
  have hxr := band_nr hall ht hyr.1
  obtain ⟨y, hye⟩ : ∃ y, firstOf fs ht (fitsQ a b wd) fr = y := ⟨_, rfl⟩
  rw [hye] at hyr hxr ⊢
  obtain ⟨x, hxe⟩ : ∃ x, max a (bandAt fs y ht).1 = x := ⟨_, rfl⟩
  rw [hxe]
  have hxb : -4503599627370496 ≤ x ∧ x ≤ 4503599627370496 := by unfold Far at hxr; omega
  clear hxr hy0 hf' ha'
  unfold Far at hyr
  obtain ⟨w3, hw3⟩ : ∃ w3, ((w.alloc (.cells #[.int .i64 a, .int .i64 b, .int .i64 wd, .int .i64 ht, .int .i64 fr] 62)).alloc (.cells #[.int .i64 0, .int .i64 0, .int .i64 0, .int .i64 0] 59)).alloc (.cells #[.int .i64 a, .int .i64 b, .int .i64 wd, .int .i64 ht, .int .i64 fr, .pointer (some ⟨S, 0, none⟩), .int .i64 0] 115) = w3 := ⟨_, rfl⟩
  have A3 : After w w3 := hw3 ▸ (((After.refl w).alloc _).alloc _).alloc _
  have B3 : Blk w3 w.heap.size 62 #[.int .i64 a, .int .i64 b, .int .i64 wd, .int .i64 ht, .int .i64 fr] := hw3 ▸ ((Blk.new w _ _).alloc _).alloc _
  have R3 : Blk w3 (w.heap.size + 1) 59 #[.int .i64 0, .int .i64 0, .int .i64 0, .int .i64 0] := by
    have := (Blk.new (w.alloc (.cells #[.int .i64 a, .int .i64 b, .int .i64 wd, .int .i64 ht, .int .i64 fr] 62)) 59 #[.int .i64 0, .int .i64 0, .int .i64 0, .int .i64 0]).alloc (.cells #[.int .i64 a, .int .i64 b, .int .i64 wd, .int .i64 ht, .int .i64 fr, .pointer (some ⟨S, 0, none⟩), .int .i64 0] 115)
    rw [World.size_alloc, hw3] at this; exact this
  have K3 : Blk w3 (w.heap.size + 2) 115 (kCells a b wd ht fr S 0) := by
    have := Blk.new ((w.alloc (.cells #[.int .i64 a, .int .i64 b, .int .i64 wd, .int .i64 ht, .int .i64 fr] 62)).alloc (.cells #[.int .i64 0, .int .i64 0, .int .i64 0, .int .i64 0] 59)) 115 #[.int .i64 a, .int .i64 b, .int .i64 wd, .int .i64 ht, .int .i64 fr, .pointer (some ⟨S, 0, none⟩), .int .i64 0]
    rw [World.size_alloc, World.size_alloc, hw3] at this; exact this
  have S3 := h.after A3
  have hI0 : FindI w3 base S L g cap fv fs (w.heap.size + 2) a b wd ht fr [] w3 := ⟨S3, K3, Only.refl _ _⟩
  have C := Lib.hid (first_any (fun z => fitsQ a b wd (bandAt fs z ht)) (fun z => -Far ≤ z ∧ z ≤ Far) (FindI w3 base S L g cap fv fs (w.heap.size + 2) a b wd ht fr) 76 #[.pointer (some ⟨w.heap.size + 2, 0, none⟩)] #[]
    (enters (fn := Try.f76) (by kernel_rfl) (by kernel_rfl) rfl) (fun _ _ h => h.1) (fun _ _ _ h k => ⟨h.1.after k, h.2.1.after k, h.2.2.then_after k⟩)
    (fun z asked w' hz hi => find_so hall ha hb hw hh z asked w' hz hi) (fun s hs => by have := tops_near hall s hs; unfold Far at *; omega) hI0 fr (by unfold L48 at hf; unfold Far; omega))
  have HA3 := Lib.hid A3
  have HB3 := Lib.hid B3
  have HR3 := Lib.hid R3
  have k3 := B3.cell 3
  have k4 := B3.cell 4
  simp at k3 k4
  have HYE := Lib.hid hye
  have HXE := Lib.hid hxe
  clear h A3 B3 R3 K3 S3 hI0 hye hxe
  go_enter Try.func41, Try.ntmps41
  go_wp2_with fail
  refine C.out.mono ?_
  rintro e w4 ⟨rfl, hs4, hk4, ho4⟩
  rw [keptL_asked, HYE.out, HXE.out] at hk4
  rw [show firstY (fun z => fitsQ a b wd (bandAt fs z ht)) (topsBelow fr (shelvesOf fs)) fr = y from HYE.out]
  unfold L48 at ha hb hw hh
  have B4 := HB3.out.only ho4 (show ¬ w.heap.size = w.heap.size + 2 by omega)
  have R4 := HR3.out.only ho4 (show ¬ w.heap.size + 1 = w.heap.size + 2 by omega)
  have A4 : After w w4 := ((HA3.out.only _).trans ho4 (fun _ _ h => h)).after_of (fun k hk e => by omega)
  clear k3 k4 hs4 ho4 C hw3
  have k6 := hk4.cell 6
  have k2 := B4.cell 2
  have k3 := B4.cell 3
  simp [kCells] at k6 k2 k3
  have q6 := fun n os => cell_grown (w := w4) hk4.lt k6 n os
  have q2 := fun n os => cell_grown (w := w4) B4.lt k2 n os
  have q3 := fun n os => cell_grown (w := w4) B4.lt k3 n os
  clear k6 k2 k3 hk4 B4
  have HR4 := Lib.hid R4
  have HA4 := Lib.hid A4
  clear R4 A4
  have hwx : IntKind.i64.wrap (x + wd) = x + wd := by rw [IntKind.wrap_i64]; omega
  have hwy : IntKind.i64.wrap (y + ht) = y + ht := by rw [IntKind.wrap_i64]; omega
  go_wp2_with fail
  refine wp_region_quiet_tail 19 hmix (by kernel_rfl) ?_
  simp only [List.take_succ_cons, List.take_zero, List.drop_succ_cons, List.drop_zero]
  repeat (quiet_step ((go_at_call 77; exact Calls.grown_after (rect_of _ _ _ _ _))))
  refine wpQuiet_nil ?_
  rintro _ ⟨p, rfl⟩
  generalize hw5 : grow (w4.drewN p.n) p.os = w5
  have A5 : After w4 w5 := hw5 ▸ After.of_grown _ _
  clear hw5 q6 q2 q3
  have R5 := HR4.out.after A5
  have A05 := HA4.out.trans A5
  have m0 := R5.cell 0
  have m1 := R5.cell 1
  have m2 := R5.cell 2
  have m3 := R5.cell 3
  have f0 := R5.frozen 0
  have f1 := R5.frozen 1
  have f2 := R5.frozen 2
  have f3 := R5.frozen 3
  simp at m0 m1 m2 m3
  obtain ⟨w6, hw6⟩ : ∃ w6, (((w5.setCell ⟨w.heap.size + 1, 0, none⟩ (.int .i64 x)).setCell ⟨w.heap.size + 1, 1, none⟩ (.int .i64 y)).setCell ⟨w.heap.size + 1, 2, none⟩ (.int .i64 (x + wd))).setCell ⟨w.heap.size + 1, 3, none⟩ (.int .i64 (y + ht)) = w6 := ⟨_, rfl⟩
  have A6 : After w w6 := hw6 ▸ (((A05.setCell (Nat.le_succ _) _).setCell (Nat.le_succ _) _).setCell (Nat.le_succ _) _).setCell (Nat.le_succ _) _
  have R6 : Blk w6 (w.heap.size + 1) 59 #[.int .i64 x, .int .i64 y, .int .i64 (x + wd), .int .i64 (y + ht)] := hw6 ▸ (((R5.set_ 0 _).set_ 1 _).set_ 2 _).set_ 3 _
  have HA6 := Lib.hid A6
  have n0 := R6.cell 0
  have n1 := R6.cell 1
  have n2 := R6.cell 2
  have n3 := R6.cell 3
  simp at n0 n1 n2 n3
  clear A6 R6 R5 A05 A5
  go_wp2_with fail
  exact bodyPost_ret (v := .agg #[.int .i64 x, .int .i64 y, .int .i64 (x + wd), .int .i64 (y + ht)]) (by simp [results, Try.results41, go_sem, n0, n1, n2, n3]) rfl ⟨rfl, HA6.out⟩
end Go.Proofs.Ytefbeekjoafijaa
