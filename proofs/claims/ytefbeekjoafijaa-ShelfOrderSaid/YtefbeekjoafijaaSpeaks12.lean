/- The statements' example of chapter 12; the reference's At. -/
import Derived.Test.YtefbeekjoafijaaFind
import Derived.Test.YtefbeekjoafijaaSpeaks
namespace Go.Proofs.Ytefbeekjoafijaa
open Go.RowKit Go.Sort

instance decL48 (x : Int) : Decidable (L48 x) := by unfold L48; infer_instance

def flt12 : Flt := ⟨1, 0, 0, 3, 2⟩

set_option maxHeartbeats 1000000 in
theorem law12_speaks (w : World) : Calls Try.prog 39 #[] w (Ret (.bool true) w) := by
  have v1 : firstOf [flt12] 1 (fitsQ 0 10 7) 0 = 0 := by decide
  have v2 : max 0 (bandAt [flt12] 0 1).1 = 3 := by decide
  have v3 : firstOf [flt12] 1 (fitsQ 0 10 8) 0 = 2 := by decide
  have v4 : max 0 (bandAt [flt12] 2 1).1 = 0 := by decide
  have F1 := Lib.hid (fun (w' : World) (base S L g cap : Nat) (fv : Value) (h : SpaceAt w' base S L g cap fv [flt12]) => avoid_find h (by decide) (a := 0) (b := 10) (wd := 7) (ht := 1) (fr := 0) (by decide) (by decide) (by decide) (by decide) (by decide))
  have F2 := Lib.hid (fun (w' : World) (base S L g cap : Nat) (fv : Value) (h : SpaceAt w' base S L g cap fv [flt12]) => avoid_find h (by decide) (a := 0) (b := 10) (wd := 8) (ht := 1) (fr := 0) (by decide) (by decide) (by decide) (by decide) (by decide))
  rw [v1, v2] at F1
  rw [v3, v4] at F2
  clear v1 v2 v3 v4
  go_enter Try.func39, Try.ntmps39
  go_wp2_with fail
  refine (space_new _).mono ?_
  rintro e w1 ⟨S, L, g, cap, fv, rfl, hs, hw1⟩
  have HS := Lib.hid hs
  clear hs
  go_wp2_with fail
  have hp := put_any HS.out (by decide) 1 0 0 3 2 (.inl rfl) (by decide)
  refine hp.mono ?_
  rintro e w2 ⟨rfl, g2, cap2, fv2, h2, O2, G2⟩
  have A2 := Lib.hid (show After w w2 from ((hw1.only _).trans O2 (fun _ _ h => h)).after_of (fun k hk hS => by have := (HS.out.owns_lt hS).1; omega))
  have H2 := Lib.hid (show SpaceAt w2 w.heap.size S L g2 cap2 fv2 [flt12] from h2)
  clear hp h2 O2 G2 hw1 HS
  have b3 := Blk.new w2 62 #[.int .i64 0, .int .i64 10, .int .i64 7, .int .i64 1, .int .i64 0]
  have a3 := (After.refl w2).alloc (.cells #[.int .i64 0, .int .i64 10, .int .i64 7, .int .i64 1, .int .i64 0] 62)
  have H3 := Lib.hid (H2.out.after a3)
  have A3 := Lib.hid (A2.out.trans a3)
  clear a3
  go_wp2_with fail
  refine (F1.out _ _ _ _ _ _ _ H3.out).mono ?_
  rintro e w4 ⟨rfl, hw4⟩
  obtain ⟨w5, hw5⟩ : ∃ w5, w4.alloc (.cells #[.int .i64 3, .int .i64 0, .int .i64 10, .int .i64 1] 59) = w5 := ⟨_, rfl⟩
  have A5 := Lib.hid (show After w w5 from hw5 ▸ (A3.out.trans hw4).alloc _)
  have r5 : Blk w5 w4.heap.size 59 #[.int .i64 3, .int .i64 0, .int .i64 10, .int .i64 1] := hw5 ▸ Blk.new _ _ _
  have b5 : Blk w5 w2.heap.size 62 #[.int .i64 0, .int .i64 10, .int .i64 7, .int .i64 1, .int .i64 0] := hw5 ▸ (b3.after hw4).alloc _
  have H5 := Lib.hid (show SpaceAt w5 w.heap.size S L g2 cap2 fv2 [flt12] from hw5 ▸ (H3.out.after hw4).after ((After.refl _).alloc _))
  have c2 := b5.cell 2
  have e2 := b5.frozen 2
  simp at c2
  obtain ⟨w6, hw6⟩ : ∃ w6, w5.setCell ⟨w2.heap.size, 2, none⟩ (.int .i64 8) = w6 := ⟨_, rfl⟩
  have ne : w4.heap.size ≠ w2.heap.size := r5.ne_ b5 (by decide)
  have b6 : Blk w6 w2.heap.size 62 #[.int .i64 0, .int .i64 10, .int .i64 8, .int .i64 1, .int .i64 0] := hw6 ▸ b5.set_ 2 _
  have r6 : Blk w6 w4.heap.size 59 #[.int .i64 3, .int .i64 0, .int .i64 10, .int .i64 1] := hw6 ▸ r5.far (p := ⟨w2.heap.size, 2, none⟩) ne _
  have H6 := Lib.hid (show SpaceAt w6 w.heap.size S L g2 cap2 fv2 [flt12] from hw6 ▸ H5.out.only (Only.setCell w5 ⟨w2.heap.size, 2, none⟩ _) (fun i hi e => by have := (H2.out.owns_lt hi).2; have e' : i = w2.heap.size := e; omega))
  have A6 := Lib.hid (show After w w6 from hw6 ▸ A5.out.setCell (A2.out.size) _)
  have k0 := b6.cell 0
  have k1 := b6.cell 1
  have k2 := b6.cell 2
  have k3 := b6.cell 3
  have k4 := b6.cell 4
  simp at k0 k1 k2 k3 k4
  have HR6 := Lib.hid r6
  clear b3 b5 r5 b6 r6 ne hw4
  go_wp2_with fail
  refine (F2.out _ _ _ _ _ _ _ H6.out).mono ?_
  rintro e w7 ⟨rfl, hw7⟩
  clear hw5 hw6 c2 e2 k0 k1 k2 k3 k4
  obtain ⟨w8, hw8⟩ : ∃ w8, w7.alloc (.cells #[.int .i64 0, .int .i64 2, .int .i64 8, .int .i64 3] 59) = w8 := ⟨_, rfl⟩
  have A8 := Lib.hid (show After w w8 from hw8 ▸ (A6.out.trans hw7).alloc _)
  have r8 : Blk w8 w7.heap.size 59 #[.int .i64 0, .int .i64 2, .int .i64 8, .int .i64 3] := hw8 ▸ Blk.new _ _ _
  have s8 : Blk w8 w4.heap.size 59 #[.int .i64 3, .int .i64 0, .int .i64 10, .int .i64 1] := hw8 ▸ (HR6.out.after hw7).alloc _
  have k0 := r8.cell 0
  have k1 := r8.cell 1
  have k2 := r8.cell 2
  have k3 := r8.cell 3
  have m0 := s8.cell 0
  have m1 := s8.cell 1
  have m2 := s8.cell 2
  have m3 := s8.cell 3
  simp at k0 k1 k2 k3 m0 m1 m2 m3
  clear r8 s8 hw7
  go_wp2_with fail
  go_ret
  exact ⟨rfl, A8.out⟩

/-! ### the reference's At -/
theorem fitsQ_split (a b wd p q : Int) : fitsQ a b wd (p, q) = if wd ≤ min b q - max a p then true else decide (b - a < wd ∧ p ≤ a ∧ a + wd ≤ q) := by
  unfold fitsQ
  by_cases h : wd ≤ min b q - max a p
  · rw [if_pos h, decide_eq_true h]; rfl
  · rw [if_neg h, decide_eq_false h]; rfl

set_option maxHeartbeats 1000000 in
theorem ref12_at {w : World} {v : Value} {fs : List Flt} (h : FlsAt w v fs) (hall : fs.all smallF = true) {a b wd ht fr : Int} (ha : L48 a) (hb : L48 b) (hw : L48 wd) (hh : L48 ht) (y : Int) (hy : -Far ≤ y ∧ y ≤ Far) :
    Calls Try.prog 43 #[v, .agg #[.int .i64 a, .int .i64 b, .int .i64 wd, .int .i64 ht, .int .i64 fr], .int .i64 y] w
      (Ret (.tuple #[.int .i64 (if fitsQ a b wd (bandAt fs y ht) then max a (bandAt fs y ht).1 else 0), .bool (fitsQ a b wd (bandAt fs y ht))]) w) := by
  obtain ⟨b1, b2, b3, b4⟩ := band_nr hall ht hy.1
  have hi1a : 1 ≤ hi1 ht := by unfold hi1; omega
  have hx : refBand fs y (y + hi1 ht) = bandAt fs y ht := (bandOf_ref fs hy.1).symm
  unfold L48 at ha hb hw hh
  have hi1b : hi1 ht ≤ 281474976710656 := by unfold hi1; omega
  unfold Far at hy b1 b2 b3 b4
  have Cb := fun (w' : World) (hw' : After w w') => ref10_bounds (h.after hw') y ht ⟨by omega, by omega⟩ ⟨by omega, by omega⟩
  have Cf := fun (w' : World) (hw' : After w w') => ref10_free (h.after hw') a b y ht ⟨by omega, by omega⟩ ⟨by omega, by omega⟩
  rw [hx] at Cb Cf
  clear hx h
  obtain ⟨x, hxe⟩ : ∃ x, bandAt fs y ht = x := ⟨_, rfl⟩
  rw [hxe] at b1 b2 b3 b4 Cb Cf ⊢
  clear hxe
  obtain ⟨p, q⟩ := x
  dsimp only at b1 b2 b3 b4 Cb Cf ⊢
  have CB := Lib.hid Cb
  have CF := Lib.hid Cf
  have HQ := Lib.hid (fitsQ_split a b wd p q)
  obtain ⟨ok, hok⟩ : ∃ ok, fitsQ a b wd (p, q) = ok := ⟨_, rfl⟩
  obtain ⟨r, hr⟩ : ∃ r, (if fitsQ a b wd (p, q) = true then max a p else 0) = r := ⟨_, rfl⟩
  rw [hr, hok]
  have HR := Lib.hid hr
  have HOK := Lib.hid hok
  clear hr hok
  clear Cb Cf
  have B1 := Blk.new w 55 #[.int .i64 a, .int .i64 b, .int .i64 wd, .int .i64 ht, .int .i64 fr]
  have A1 := (After.refl w).alloc (.cells #[.int .i64 a, .int .i64 b, .int .i64 wd, .int .i64 ht, .int .i64 fr] 55)
  have HB1 := Lib.hid B1
  have HA1 := Lib.hid A1
  clear B1 A1
  have hw1 : IntKind.i64.wrap (min b q - max a p) = min b q - max a p := by rw [IntKind.wrap_i64]; omega
  have hw2 : IntKind.i64.wrap (b - a) = b - a := by rw [IntKind.wrap_i64]; omega
  have hw3 : IntKind.i64.wrap (a + wd) = a + wd := by rw [IntKind.wrap_i64]; omega
  go_enter Try.func43, Try.ntmps43
  go_wp2_with fail
  refine (CB.out _ HA1.out).mono ?_
  rintro e w2 ⟨rfl, hA2⟩
  have A2 := Lib.hid (HA1.out.trans hA2)
  have B2 := Lib.hid (HB1.out.after hA2)
  clear hA2
  have k0 := B2.out.cell 0
  have k1 := B2.out.cell 1
  have k3 := B2.out.cell 3
  simp at k0 k1 k3
  go_wp2_with fail
  refine (CF.out _ A2.out).mono ?_
  rintro e w3 ⟨rfl, hA3⟩
  have A3 := Lib.hid (A2.out.trans hA3)
  have B3 := Lib.hid (B2.out.after hA3)
  clear hA3 k0 k1 k3
  have k0 := B3.out.cell 0
  have k1 := B3.out.cell 1
  have k2 := B3.out.cell 2
  simp at k0 k1 k2
  by_cases h1 : wd ≤ min b q - max a p
  · have HV := Lib.hid (show fitsQ a b wd (p, q) = true by rw [HQ.out, if_pos h1])
    go_wp2_with fail
    go_ret2
    refine ⟨ret_ib ?_ ?_, A3.out⟩
    · rw [← HR.out, HV.out]; rfl
    · rw [← HOK.out, HV.out]
  · by_cases g1 : b - a < wd
    · by_cases g2 : p ≤ a
      · by_cases g3 : a + wd ≤ q
        · have HV := Lib.hid (show fitsQ a b wd (p, q) = true by rw [HQ.out, if_neg h1]; exact decide_eq_true ⟨g1, g2, g3⟩)
          have g1' : decide (b - a < wd) = true := decide_eq_true g1
          have g2' : decide (p ≤ a) = true := decide_eq_true g2
          have g3' : decide (a + wd ≤ q) = true := decide_eq_true g3
          go_wp2_with fail
          go_ret2
          refine ⟨ret_ib ?_ ?_, A3.out⟩
          · rw [← HR.out, HV.out]; rfl
          · rw [← HOK.out, HV.out]
        · have HV := Lib.hid (show fitsQ a b wd (p, q) = false by rw [HQ.out, if_neg h1]; exact decide_eq_false (fun h => g3 h.2.2))
          have g1' : decide (b - a < wd) = true := decide_eq_true g1
          have g2' : decide (p ≤ a) = true := decide_eq_true g2
          have g3' : decide (a + wd ≤ q) = false := decide_eq_false g3
          go_wp2_with fail
          go_ret2
          refine ⟨ret_ib ?_ ?_, A3.out⟩
          · rw [← HR.out, HV.out]; rfl
          · rw [← HOK.out, HV.out]
      · have HV := Lib.hid (show fitsQ a b wd (p, q) = false by rw [HQ.out, if_neg h1]; exact decide_eq_false (fun h => g2 h.2.1))
        have g1' : decide (b - a < wd) = true := decide_eq_true g1
        have g2' : decide (p ≤ a) = false := decide_eq_false g2
        go_wp2_with fail
        go_ret2
        refine ⟨ret_ib ?_ ?_, A3.out⟩
        · rw [← HR.out, HV.out]; rfl
        · rw [← HOK.out, HV.out]
    · have HV := Lib.hid (show fitsQ a b wd (p, q) = false by rw [HQ.out, if_neg h1]; exact decide_eq_false (fun h => g1 h.1))
      have g1' : decide (b - a < wd) = false := decide_eq_false g1
      go_wp2_with fail
      go_ret2
      refine ⟨ret_ib ?_ ?_, A3.out⟩
      · rw [← HR.out, HV.out]; rfl
      · rw [← HOK.out, HV.out]
end Go.Proofs.Ytefbeekjoafijaa
