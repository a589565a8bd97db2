/- Law SpaceFrees: its walk. -/
import Derived.Test.YtefbeekjoafijaaTold
namespace Go.Proofs.Ytefbeekjoafijaa
open Go.RowKit Go.Sort

def lim (x : Int) : Bool := decide (-1125899906842624 ≤ x ∧ x ≤ 1125899906842624)
def FreesRel (l : List Int) (v : Value) (w wr : World) : Prop := ∃ k : Nat, v = .int .i64 (k : Int) ∧ k ≤ 4 ∧ (∀ j x, j < k → l[j]? = some x → lim x = true) ∧ wr = w

set_option maxRecDepth 100000 in
set_option maxHeartbeats 8000000 in
theorem spaceFrees {w : World} {v : Value} {fs : List Flt} (h : FlsAt w v fs) (c d y z : Int) : Calls Try.prog 5 #[v, .int .i64 c, .int .i64 d, .int .i64 y, .int .i64 z] w (Ret (.bool true) w) := by
  have hmix := mixed
  cases hfew : fewB fs 40 with
  | false =>
    have hF := Lib.hid hfew
    have HV := Lib.hid h
    clear hfew h
    go_enter Try.func5, Try.ntmps5
    go_wp2_with fail
    refine (law10_speaks _).mono ?_
    rintro e w1 ⟨rfl, hw1⟩
    go_wp2_with fail
    refine (law09_few (HV.out.after hw1) 40).mono ?_
    rintro e w2 ⟨rfl, hw2⟩
    rw [hF.out]
    go_wp2_with fail
    refine (law10_speaks _).mono ?_
    rintro e w3 ⟨rfl, hw3⟩
    go_wp2
    go_ret
    exact ⟨rfl, (hw1.trans hw2).trans hw3⟩
  | true =>
    cases hsd : fs.all sideOk with
    | false =>
      have hF := Lib.hid hfew
      have hS := Lib.hid hsd
      have HV := Lib.hid h
      clear hfew h hsd
      go_enter Try.func5, Try.ntmps5
      go_wp2_with fail
      refine (law10_speaks _).mono ?_
      rintro e w1 ⟨rfl, hw1⟩
      go_wp2_with fail
      refine (law09_few (HV.out.after hw1) 40).mono ?_
      rintro e w2 ⟨rfl, hw2⟩
      rw [hF.out]
      go_wp2_with fail
      refine (law10_sides ((HV.out.after hw1).after hw2)).mono ?_
      rintro e w3 ⟨rfl, hw3⟩
      rw [hS.out]
      go_wp2_with fail
      refine (law10_speaks _).mono ?_
      rintro e w4 ⟨rfl, hw4⟩
      go_wp2
      go_ret
      exact ⟨rfl, ((hw1.trans hw2).trans hw3).trans hw4⟩
    | true =>
      have hsm : fs.all smallF = true := by unfold fewB at hfew; simp only [Bool.and_eq_true] at hfew; exact hfew.1
      have hln : fs.length ≤ 40 := by unfold fewB at hfew; simp only [Bool.and_eq_true, decide_eq_true_eq] at hfew; have := hfew.2; omega
      have hF := Lib.hid hfew
      have hS := Lib.hid hsd
      have hM := Lib.hid hsm
      have HV := Lib.hid h
      clear hfew h hsd hsm
      go_enter Try.func5, Try.ntmps5
      go_wp2_with fail
      refine (law10_speaks _).mono ?_
      rintro e w1 ⟨rfl, hw1⟩
      go_wp2_with fail
      refine (law09_few (HV.out.after hw1) 40).mono ?_
      rintro e w2 ⟨rfl, hw2⟩
      rw [hF.out]
      go_wp2_with fail
      refine (law10_sides ((HV.out.after hw1).after hw2)).mono ?_
      rintro e w3 ⟨rfl, hw3⟩
      rw [hS.out]
      have A3 := (hw1.trans hw2).trans hw3
      clear hw1 hw2 hw3
      go_wp2_with fail
      refine name_world (fun W4 hW4 => ?_)
      have b4 : Blk W4 w3.heap.size 3 #[.int .i64 c, .int .i64 d, .int .i64 y, .int .i64 z] := by rw [hW4]; exact Blk.new _ _ _
      have A4 : After w W4 := by rw [hW4]; exact A3.alloc _
      have k0 := b4.cell 0
      have k1 := b4.cell 1
      have k2 := b4.cell 2
      have k3 := b4.cell 3
      simp at k0 k1 k2 k3
      clear hW4
      go_loopw [38] (fun v wr => FreesRel [c, d, y, z] v W4 wr) (fun v _ => 5 - (intOf v).toNat)
      case atStart => exact ⟨0, rfl, by decide, fun j x hj _ => absurd hj (Nat.not_lt_zero _), rfl⟩
      case round =>
        obtain ⟨k, rfl, hk, hs, rfl⟩ := hrel
        have Hs := Lib.hid hs
        clear hs
        rcases (show k = 0 ∨ k = 1 ∨ k = 2 ∨ k = 3 ∨ k = 4 by omega) with rfl | rfl | rfl | rfl | rfl
        · cases hin : lim c with
          | true =>
            have hin' := hin
            unfold lim at hin'
            simp only [decide_eq_true_eq] at hin'
            have e1 : ¬ 1125899906842624 < c := by omega
            have e2 : ¬ c < -1125899906842624 := by omega
            have Hin := Lib.hid hin
            clear hin hin'
            go_wp2_with fail
            go_roundw
            case rel =>
              refine ⟨1, rfl, by decide, fun j x hj hx => ?_, rfl⟩
              rcases Nat.lt_or_ge j 0 with h' | h'
              · exact Hs.out j x h' hx
              · obtain rfl : j = 0 := by omega
                cases hx
                exact Hin.out
            case measure => decide
          | false =>
            unfold lim at hin
            simp only [decide_eq_false_iff_not] at hin
            by_cases e1 : 1125899906842624 < c
            · go_wp2_with fail
              go_ret
              exact ⟨rfl, A4⟩
            · have e2 : c < -1125899906842624 := by omega
              go_wp2_with fail
              go_ret
              exact ⟨rfl, A4⟩
        · cases hin : lim d with
          | true =>
            have hin' := hin
            unfold lim at hin'
            simp only [decide_eq_true_eq] at hin'
            have e1 : ¬ 1125899906842624 < d := by omega
            have e2 : ¬ d < -1125899906842624 := by omega
            have Hin := Lib.hid hin
            clear hin hin'
            go_wp2_with fail
            go_roundw
            case rel =>
              refine ⟨2, rfl, by decide, fun j x hj hx => ?_, rfl⟩
              rcases Nat.lt_or_ge j 1 with h' | h'
              · exact Hs.out j x h' hx
              · obtain rfl : j = 1 := by omega
                cases hx
                exact Hin.out
            case measure => decide
          | false =>
            unfold lim at hin
            simp only [decide_eq_false_iff_not] at hin
            by_cases e1 : 1125899906842624 < d
            · go_wp2_with fail
              go_ret
              exact ⟨rfl, A4⟩
            · have e2 : d < -1125899906842624 := by omega
              go_wp2_with fail
              go_ret
              exact ⟨rfl, A4⟩
        · cases hin : lim y with
          | true =>
            have hin' := hin
            unfold lim at hin'
            simp only [decide_eq_true_eq] at hin'
            have e1 : ¬ 1125899906842624 < y := by omega
            have e2 : ¬ y < -1125899906842624 := by omega
            have Hin := Lib.hid hin
            clear hin hin'
            go_wp2_with fail
            go_roundw
            case rel =>
              refine ⟨3, rfl, by decide, fun j x hj hx => ?_, rfl⟩
              rcases Nat.lt_or_ge j 2 with h' | h'
              · exact Hs.out j x h' hx
              · obtain rfl : j = 2 := by omega
                cases hx
                exact Hin.out
            case measure => decide
          | false =>
            unfold lim at hin
            simp only [decide_eq_false_iff_not] at hin
            by_cases e1 : 1125899906842624 < y
            · go_wp2_with fail
              go_ret
              exact ⟨rfl, A4⟩
            · have e2 : y < -1125899906842624 := by omega
              go_wp2_with fail
              go_ret
              exact ⟨rfl, A4⟩
        · cases hin : lim z with
          | true =>
            have hin' := hin
            unfold lim at hin'
            simp only [decide_eq_true_eq] at hin'
            have e1 : ¬ 1125899906842624 < z := by omega
            have e2 : ¬ z < -1125899906842624 := by omega
            have Hin := Lib.hid hin
            clear hin hin'
            go_wp2_with fail
            go_roundw
            case rel =>
              refine ⟨4, rfl, by decide, fun j x hj hx => ?_, rfl⟩
              rcases Nat.lt_or_ge j 3 with h' | h'
              · exact Hs.out j x h' hx
              · obtain rfl : j = 3 := by omega
                cases hx
                exact Hin.out
            case measure => decide
          | false =>
            unfold lim at hin
            simp only [decide_eq_false_iff_not] at hin
            by_cases e1 : 1125899906842624 < z
            · go_wp2_with fail
              go_ret
              exact ⟨rfl, A4⟩
            · have e2 : z < -1125899906842624 := by omega
              go_wp2_with fail
              go_ret
              exact ⟨rfl, A4⟩
        · have l1 := Hs.out 2 y (by decide) rfl
          have l2 := Hs.out 3 z (by decide) rfl
          unfold lim at l1 l2
          simp only [decide_eq_true_eq] at l1 l2
          have hb1 : 1 ≤ hi1 z := by unfold hi1; omega
          have hb2 : hi1 z ≤ 1125899906842624 := by unfold hi1; omega
          have hbr := Lib.hid (show bandOf fs y (y + hi1 z) = refBand fs y (y + hi1 z) from bandOf_ref fs (by unfold Far; omega))
          clear k0 k1 k2 k3
          go_wp2_with fail
          refine (law10_begin (HV.out.after A4) hM.out hS.out (by omega)).mono ?_
          rintro e w5 ⟨S, L, g, cap, fv, rfl, s5, hw5⟩
          have S5 := Lib.hid s5
          have A5 := Lib.hid (A4.trans hw5)
          clear s5 hw5
          go_wp2_with fail
          refine (space_rows y z _ (by omega) (by omega) (by omega) (by omega)).mono ?_
          rintro e w6 ⟨rfl, hw6⟩
          have S6 := Lib.hid (S5.out.after hw6)
          have A6 := Lib.hid (A5.out.trans hw6)
          clear hw6
          go_wp2_with fail
          refine name_world (fun W7 hW7 => ?_)
          have A7 : After w6 W7 := by rw [hW7]; exact (After.refl _).alloc _
          have b7 : Blk W7 w6.heap.size 34 #[.int .i64 y, .int .i64 (y + hi1 z)] := by rw [hW7]; exact Blk.new _ _ _
          clear hW7
          have k0 := b7.cell 0
          have k1 := b7.cell 1
          simp at k0 k1
          have q0 := fun n os => cell_grown (w := W7) b7.lt k0 n os
          have q1 := fun n os => cell_grown (w := W7) b7.lt k1 n os
          have hwr : IntKind.i64.wrap (y + hi1 z) = y + hi1 z := by rw [IntKind.wrap_i64]; omega
          go_quiet_grown ((go_at_call 34; exact Calls.grown_after (ref10_high _ _)))
          generalize hw8 : grow (W7.drewN _) _ = w8
          have A8 : After W7 w8 := hw8 ▸ After.of_grown _ _
          clear hw8 q0 q1 k0 k1 hwr
          have b8 := b7.after A8
          have S8 := Lib.hid ((S6.out.after A7).after A8)
          have A08 := Lib.hid ((A6.out.trans A7).trans A8)
          have k0 := b8.cell 0
          have k1 := b8.cell 1
          simp at k0 k1
          have Cb := Lib.hid (fun (w' : World) (hw' : After w8 w') => ref10_bounds (HV.out.after (A08.out.trans hw')) y z ⟨by omega, by omega⟩ ⟨by omega, by omega⟩)
          have Cf := Lib.hid (fun (w' : World) (hw' : After w8 w') => ref10_free (HV.out.after (A08.out.trans hw')) c d y z ⟨by omega, by omega⟩ ⟨by omega, by omega⟩)
          have Sb := fun (w' : World) (hw' : After w8 w') => space_bounds (S8.out.after hw') y (y + hi1 z) ⟨by omega, by omega⟩ ⟨by omega, by omega⟩
          have Sf := fun (w' : World) (hw' : After w8 w') => space_free (S8.out.after hw') c d y (y + hi1 z) ⟨by omega, by omega⟩ ⟨by omega, by omega⟩
          rw [hbr.out] at Sb Sf
          have SB := Lib.hid Sb
          have SF := Lib.hid Sf
          clear Sb Sf
          generalize refBand fs y (y + hi1 z) = x at Cb Cf SB SF
          obtain ⟨p, q⟩ := x
          dsimp only at Cb Cf SB SF
          go_wp2_with fail
          refine (Cb.out _ (After.refl _)).mono ?_
          rintro e w9 ⟨rfl, hw9⟩
          have a9 := Lib.hid hw9
          clear hw9
          go_wp2_with fail
          refine (Cf.out _ a9.out).mono ?_
          rintro e w10 ⟨rfl, hw10⟩
          have a10 := a9.out.trans hw10
          have b10 := b8.after a10
          clear k0 k1
          have k0 := b10.cell 0
          have k1 := b10.cell 1
          simp at k0 k1
          have a10' := Lib.hid a10
          clear hw10 a10
          go_wp2_with fail
          refine (SB.out _ a10'.out).mono ?_
          rintro e w11 ⟨rfl, hw11⟩
          have a11 := a10'.out.trans hw11
          have b11 := b8.after a11
          clear k0 k1
          have k0 := b11.cell 0
          have k1 := b11.cell 1
          simp at k0 k1
          have a11' := Lib.hid a11
          clear hw11 a11
          go_wp2_with fail
          refine (SF.out _ a11'.out).mono ?_
          rintro e w12 ⟨rfl, hw12⟩
          go_wp2
          go_ret
          exact ⟨rfl, A08.out.trans (a11'.out.trans hw12)⟩
end Go.Proofs.Ytefbeekjoafijaa
