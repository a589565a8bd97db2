/- avoid: may a box stand at a height (fits)? -/
import Derived.Test.YtefbeekjoafijaaAvoid
import Derived.Test.YtefbeekjoafijaaFresh
namespace Go.Proofs.Ytefbeekjoafijaa
open Go.RowKit Go.Sort
attribute [local irreducible] wpQuiet

/-! ### what lays a fresh block -/
theorem al_span (o : Oper) (h : o.op = .alloc 34) (r : Operand → Value) (w : World) : (execOp r o).run Try.prog w = .ok (.value (ptr w.heap.size)) (w.alloc (.cells #[.int .i64 0, .int .i64 0] 34)) := by
  unfold execOp
  rw [h]
  kernel_rfl

/-! ### fits -/
def kCells (a b wd ht fr : Int) (S : Nat) (lf : Int) : Array Value := #[.int .i64 a, .int .i64 b, .int .i64 wd, .int .i64 ht, .int .i64 fr, .pointer (some ⟨S, 0, none⟩), .int .i64 lf]

def FitsPost (w : World) (K : Nat) (a b wd ht fr : Int) (S : Nat) (x : Int × Int) (e : Ending) (w' : World) : Prop :=
  e = .returned (.bool (fitsQ a b wd x)) ∧ Blk w' K 115 (kCells a b wd ht fr S (max a x.1)) ∧ Only w w' (· = K)

set_option maxRecDepth 100000 in
set_option maxHeartbeats 40000000 in
theorem fits_any {w : World} {base S L g cap : Nat} {fv : Value} {fs : List Flt} (h : SpaceAt w base S L g cap fv fs) (hall : fs.all smallF = true) {K : Nat} {a b wd ht fr lf : Int} (hk : Blk w K 115 (kCells a b wd ht fr S lf))
    (ha : L48 a) (hb : L48 b) (hw : L48 wd) (hh : L48 ht) (y : Int) (hy : -Far ≤ y ∧ y ≤ Far) :
    Calls Try.prog 76 #[.pointer (some ⟨K, 0, none⟩), .int .i64 y] w (FitsPost w K a b wd ht fr S (bandAt fs y ht)) := by
  have hmix := mixed
  obtain ⟨b1, b2, b3, b4⟩ := band_nr hall ht hy.1
  have hKS : K ≠ S := hk.ne_ h.obj (by decide)
  unfold L48 at ha hb hw hh
  unfold Far at hy b1 b2 b3 b4
  have hi1a : 1 ≤ hi1 ht := by unfold hi1; omega
  have hi1b : hi1 ht ≤ 281474976710656 := by unfold hi1; omega
  have hapart := h.apart hk (by decide) (by decide) (by decide) (by decide)
  have H := Lib.hid h
  have HK := Lib.hid hk
  have k0 := hk.cell 0
  have k1 := hk.cell 1
  have k2 := hk.cell 2
  have k3 := hk.cell 3
  have k5 := hk.cell 5
  simp [kCells] at k0 k1 k2 k3 k5
  have hx : bandAt fs y ht = bandOf fs y (y + hi1 ht) := rfl
  obtain ⟨x, hxe⟩ : ∃ x, x = bandAt fs y ht := ⟨_, rfl⟩
  rw [← hxe] at b1 b2 b3 b4 ⊢
  obtain ⟨p, q⟩ := x
  dsimp only at b1 b2 b3 b4
  have CF := Lib.hid (fun (w' : World) (hw' : Only w w' (· = K)) => by
    have := space_free (H.out.only hw' (fun i hi e => hapart (e ▸ hi))) a b y (y + hi1 ht) ⟨by omega, by omega⟩ ⟨by omega, by omega⟩
    rw [← hx, ← hxe] at this
    exact this)
  have CB := Lib.hid (fun (w' : World) (hw' : Only w w' (· = K)) => by
    have := space_bounds (H.out.only hw' (fun i hi e => hapart (e ▸ hi))) y (y + hi1 ht) ⟨by omega, by omega⟩ ⟨by omega, by omega⟩
    rw [← hx, ← hxe] at this
    exact this)
  clear h hk hx hxe
  go_enter Try.func76, Try.ntmps76
  go_wp2_with fail
  refine (space_rows y ht _ (by omega) (by omega) (by omega) (by omega)).mono ?_
  rintro e w1 ⟨rfl, hw1⟩
  have K1 := HK.out.after hw1
  clear k0 k1 k2 k3 k5
  have k0 := K1.cell 0
  have k1 := K1.cell 1
  have k2 := K1.cell 2
  have k3 := K1.cell 3
  have k5 := K1.cell 5
  simp [kCells] at k0 k1 k2 k3 k5
  go_wp2_with fail
  refine name_world (fun W2 hW2 => ?_)
  have A2 : After w1 W2 := by rw [hW2]; exact (After.refl _).alloc _
  have b2 : Blk W2 w1.heap.size 34 #[.int .i64 y, .int .i64 (y + hi1 ht)] := by rw [hW2]; exact Blk.new _ _ _
  have K2 := K1.after A2
  clear hW2 k0 k1 k2 k3 k5
  have k0 := K2.cell 0
  have k1 := K2.cell 1
  have k5 := K2.cell 5
  have k6 := b2.cell 0
  have k7 := b2.cell 1
  simp [kCells] at k0 k1 k5 k6 k7
  have q0 := fun n os => cell_grown (w := W2) K2.lt k0 n os
  have q1 := fun n os => cell_grown (w := W2) K2.lt k1 n os
  have q5 := fun n os => cell_grown (w := W2) K2.lt k5 n os
  have q6 := fun n os => cell_grown (w := W2) b2.lt k6 n os
  have q7 := fun n os => cell_grown (w := W2) b2.lt k7 n os
  have hA02 := hw1.trans A2
  clear k0 k1 k5 k6 k7
  have CG := Lib.hid (fun (w' : World) (hw' : After W2 w') => CF.out w' ((hA02.trans hw').only _))
  refine wp_region_fresh 12 [(11, .cells #[.int .i64 0, .int .i64 0] 34)] hmix (by kernel_rfl) (lays_one rfl rfl (fun _ => rfl) (al_span _ rfl) (by kernel_rfl)) ?_
  simp only [List.take_succ_cons, List.take_zero, List.drop_succ_cons, List.drop_zero]
  repeat (first
    | refine wpFresh_al rfl ?_
    | (refine wpFresh_step rfl (fun KK hKK => ?_)
       go_simp
       first
         | (refine hKK _ ?_; clear hKK KK)
         | (apply Exists.intro
            refine ⟨fun p => ?_, hKK _ ?_⟩
            (go_at_call 37; exact CG.out _ (gw_after _ p))
            clear hKK KK)))
  refine wpFresh_nil ?_
  intro P w3 hL
  obtain ⟨AP3, bP0, hPl⟩ := hL.one
  have bP3 : Blk w3 P 34 #[.int .i64 0, .int .i64 0] := bP0
  clear hL bP0 q0 q1 q5 q6 q7
  have p0 := bP3.cell 0
  have p1 := bP3.cell 1
  have f0 := bP3.frozen 0
  have f1 := bP3.frozen 1
  simp at p0 p1
  obtain ⟨w5, hw5⟩ : ∃ w5, (w3.setCell ⟨P, 0, none⟩ (.int .i64 (max a p))).setCell ⟨P, 1, none⟩ (.int .i64 (min b q)) = w5 := ⟨_, rfl⟩
  have P5 : Blk w5 P 34 #[.int .i64 (max a p), .int .i64 (min b q)] := hw5 ▸ (bP3.set_ 0 _).set_ 1 _
  have A5 : After W2 w5 := hw5 ▸ (AP3.setCell hPl _).setCell hPl _
  have K5 := K2.after A5
  have R5 := b2.after A5
  have O5 := (hA02.trans A5).only (· = K)
  have hKP : K ≠ P := K5.ne_ P5 (by decide)
  have hKR : K ≠ w1.heap.size := K5.ne_ R5 (by decide)
  have c6 := K5.cell 6
  have f6 := K5.frozen 6
  have m0 := P5.cell 0
  simp [kCells] at c6 m0
  obtain ⟨w6, hw6⟩ : ∃ w6, w5.setCell ⟨K, 6, none⟩ (.int .i64 (max a p)) = w6 := ⟨_, rfl⟩
  have K6 : Blk w6 K 115 (kCells a b wd ht fr S (max a p)) := hw6 ▸ K5.set_ 6 (.int .i64 (max a p))
  have P6 : Blk w6 P 34 #[.int .i64 (max a p), .int .i64 (min b q)] := hw6 ▸ P5.far (p := ⟨K, 6, none⟩) (fun e => hKP e.symm) (.int .i64 (max a p))
  have R6 : Blk w6 w1.heap.size 34 #[.int .i64 y, .int .i64 (y + hi1 ht)] := hw6 ▸ R5.far (p := ⟨K, 6, none⟩) (fun e => hKR e.symm) (.int .i64 (max a p))
  have O6 : Only w w6 (· = K) := hw6 ▸ O5.trans (Only.setCell w5 ⟨K, 6, none⟩ _) (fun _ _ h => h)
  have HK6 := Lib.hid K6
  have HP6 := Lib.hid P6
  have HB6 := Lib.hid R6
  have HO6 := Lib.hid O6
  clear bP3 AP3 P5 A5 K5 R5 O5 K6 P6 R6 O6 K2 b2 hKP hKR K1
  go_wp2_with fail
  clear hw5 hw6 c6 f6 m0 p0 p1 f0 f1
  have K5 := HK6.out
  have P5 := HP6.out
  have k2 := K5.cell 2
  have k0 := P5.cell 0
  have k1 := P5.cell 1
  simp [kCells] at k2 k0 k1
  have q2 := fun n os => cell_grown (w := w6) K5.lt k2 n os
  have q0 := fun n os => cell_grown (w := w6) P5.lt k0 n os
  have q1 := fun n os => cell_grown (w := w6) P5.lt k1 n os
  clear k2 k0 k1
  go_quiet_grown ((go_at_call 67; exact Calls.grown_after (span_len _ _ _ (by omega) (by omega) (by omega) (by omega))))
  generalize hw7 : grow (w6.drewN _) _ = w7
  have A7 : After w6 w7 := hw7 ▸ After.of_grown _ _
  clear hw7 q2 q0 q1
  have K7 := K5.after A7
  have B7 := HB6.out.after A7
  have O7 := HO6.out.then_after A7
  clear K5 P5
  by_cases h1 : wd ≤ min b q - max a p
  · go_wp2_with fail
    go_ret
    refine ⟨ret_bool ?_, K7, O7⟩
    unfold fitsQ
    rw [decide_eq_true h1]; rfl
  · have CH := Lib.hid (fun (w' : World) (hw' : After w7 w') => CB.out w' (O7.then_after hw'))
    have k5 := K7.cell 5
    have k6 := B7.cell 0
    have k7 := B7.cell 1
    simp [kCells] at k5 k6 k7
    have q5 := fun n os => cell_grown (w := w7) K7.lt k5 n os
    have q6 := fun n os => cell_grown (w := w7) B7.lt k6 n os
    have q7 := fun n os => cell_grown (w := w7) B7.lt k7 n os
    clear k5 k6 k7
    have hne1 : fitsQ a b wd (p, q) = decide (b - a < wd ∧ p ≤ a ∧ a + wd ≤ q) := by unfold fitsQ; rw [decide_eq_false h1]; rfl
    have hNE := Lib.hid hne1
    clear hne1
    go_wp2_with fail
    refine wp_region_fresh 7 [(6, .cells #[.int .i64 0, .int .i64 0] 34)] hmix (by kernel_rfl) (lays_one rfl rfl (fun _ => rfl) (al_span _ rfl) (by kernel_rfl)) ?_
    simp only [List.take_succ_cons, List.take_zero, List.drop_succ_cons, List.drop_zero]
    repeat (first
      | refine wpFresh_al rfl ?_
      | (refine wpFresh_step rfl (fun KK hKK => ?_)
         go_simp
         first
           | (refine hKK _ ?_; clear hKK KK)
           | (apply Exists.intro
              refine ⟨fun p => ?_, hKK _ ?_⟩
              (go_at_call 36; exact CH.out _ (gw_after _ p))
              clear hKK KK)))
    refine wpFresh_nil ?_
    intro R w8 hL
    obtain ⟨A8, bR0, hRl⟩ := hL.one
    have bR : Blk w8 R 34 #[.int .i64 0, .int .i64 0] := bR0
    clear hL bR0 q5 q6 q7
    have p0 := bR.cell 0
    have p1 := bR.cell 1
    have f0 := bR.frozen 0
    have f1 := bR.frozen 1
    simp at p0 p1
    obtain ⟨w9, hw9⟩ : ∃ w9, (w8.setCell ⟨R, 0, none⟩ (.int .i64 p)).setCell ⟨R, 1, none⟩ (.int .i64 q) = w9 := ⟨_, rfl⟩
    have R9 : Blk w9 R 34 #[.int .i64 p, .int .i64 q] := hw9 ▸ (bR.set_ 0 _).set_ 1 _
    have A9 : After w7 w9 := hw9 ▸ (A8.setCell hRl _).setCell hRl _
    have K9 := K7.after A9
    have HK9 := Lib.hid K9
    have HO9 := Lib.hid (O7.then_after A9)
    have HR9 := Lib.hid R9
    clear bR A8 A9 K9 R9
    go_wp2_with fail
    clear hw9 p0 p1 f0 f1
    have k0 := HK9.out.cell 0
    have k1 := HK9.out.cell 1
    have k2 := HK9.out.cell 2
    have m0 := HR9.out.cell 0
    have m1 := HR9.out.cell 1
    simp [kCells] at k0 k1 k2 m0 m1
    have q0 := fun n os => cell_grown (w := w9) HK9.out.lt k0 n os
    have q1 := fun n os => cell_grown (w := w9) HK9.out.lt k1 n os
    have q2 := fun n os => cell_grown (w := w9) HK9.out.lt k2 n os
    have q3 := fun n os => cell_grown (w := w9) HR9.out.lt m0 n os
    have q4 := fun n os => cell_grown (w := w9) HR9.out.lt m1 n os
    have hwr : IntKind.i64.wrap (a + wd) = a + wd := by rw [IntKind.wrap_i64]; omega
    clear k0 k1 k2 m0 m1 K7 B7 O7
    by_cases g1 : b - a < wd
    · have g1' : decide (b - a < wd) = true := decide_eq_true g1
      by_cases g2 : p ≤ a
      · have g2' : decide (p ≤ a) = true := decide_eq_true g2
        go_quiet_grown ((go_at_call 67; exact Calls.grown_after (span_len _ _ _ (by omega) (by omega) (by omega) (by omega))))
        generalize hw10 : grow (w9.drewN _) _ = w10
        have A10 : After w9 w10 := hw10 ▸ After.of_grown _ _
        clear hw10 q0 q1 q2 q3 q4
        have K10 := Lib.hid (HK9.out.after A10)
        have O10 := Lib.hid (HO9.out.then_after A10)
        clear A10
        go_wp2_with fail
        go_ret
        refine ⟨ret_bool ?_, K10.out, O10.out⟩
        rw [hNE.out]; first | (simp [g1, g2]; done) | (simp [g1, g2]; omega)
      · have g2' : decide (p ≤ a) = false := decide_eq_false g2
        go_quiet_grown ((go_at_call 67; exact Calls.grown_after (span_len _ _ _ (by omega) (by omega) (by omega) (by omega))))
        generalize hw10 : grow (w9.drewN _) _ = w10
        have A10 : After w9 w10 := hw10 ▸ After.of_grown _ _
        clear hw10 q0 q1 q2 q3 q4
        have K10 := Lib.hid (HK9.out.after A10)
        have O10 := Lib.hid (HO9.out.then_after A10)
        clear A10
        go_wp2_with fail
        go_ret
        refine ⟨ret_bool ?_, K10.out, O10.out⟩
        rw [hNE.out]; first | (simp [g1, g2]; done) | (simp [g1, g2]; omega)
    · have g1' : decide (b - a < wd) = false := decide_eq_false g1
      go_quiet_grown ((go_at_call 67; exact Calls.grown_after (span_len _ _ _ (by omega) (by omega) (by omega) (by omega))))
      generalize hw10 : grow (w9.drewN _) _ = w10
      have A10 : After w9 w10 := hw10 ▸ After.of_grown _ _
      clear hw10 q0 q1 q2 q3 q4
      have K10 := Lib.hid (HK9.out.after A10)
      have O10 := Lib.hid (HO9.out.then_after A10)
      clear A10
      go_wp2_with fail
      go_ret
      refine ⟨ret_bool ?_, K10.out, O10.out⟩
      rw [hNE.out]; first | (simp [g1]; done) | (simp [g1]; omega)
end Go.Proofs.Ytefbeekjoafijaa
