/- Law SpaceTells: its walk. -/
import Derived.Test.YtefbeekjoafijaaTold
namespace Go.Proofs.Ytefbeekjoafijaa
open Go.RowKit Go.Sort

theorem bottom_eq {c : Int} (h0 : 0 ≤ c) (h3 : c ≤ 3) (fs : List Flt) : bottomOf c fs = botOf c fs := by
  unfold bottomOf
  split
  · have hc : c = 0 := by omega
    subst hc
    induction fs using snoc_ind0 with
    | nil => rfl
    | snoc l f ih => rw [botOf_snoc, ← ih]; simp [clearsB]
  · rfl
theorem clear_eq {c : Int} (h0 : 0 ≤ c) (h3 : c ≤ 3) (y : Int) (fs : List Flt) : clearOf c y fs = clearRef c y fs := by
  unfold clearOf clearRef
  rw [bottom_eq h0 h3]
  cases botOf c fs <;> rfl

def TellsRel (v : Value) (w wr : World) : Prop := ∃ k : Nat, v = .int .i64 (k : Int) ∧ k ≤ 4 ∧ After w wr
def TellsRel2 (fs : List Flt) (v : Value) (w wr : World) : Prop := ∃ k : Nat, v = .int .i64 (k : Int) ∧ k ≤ fs.length ∧ After w wr

set_option maxRecDepth 100000 in
set_option maxHeartbeats 8000000 in
theorem spaceTells {w : World} {v : Value} {fs : List Flt} (h : FlsAt w v fs) (clr y : Int) : Calls Try.prog 11 #[v, .int .i64 clr, .int .i64 y] w (Ret (.bool true) w) := by
  have hmix := mixed
  cases hfew : fewB fs 40 with
  | false =>
    have hF := Lib.hid hfew
    have HV := Lib.hid h
    clear hfew h
    go_enter Try.func11, Try.ntmps11
    go_wp2_with fail
    refine (law10_speaks _).mono ?_
    rintro e w1 ⟨rfl, hw1⟩
    go_wp2_with fail
    refine (law09_few (HV.out.after hw1) 40).mono ?_
    rintro e w2 ⟨rfl, hw2⟩
    rw [hF.out]
    go_wp2_with fail
    refine (law10_speaks _).mono ?_
    rintro e w3 ⟨rfl, hw3⟩
    go_wp2
    go_ret
    exact ⟨rfl, (hw1.trans hw2).trans hw3⟩
  | true =>
    cases hsd : fs.all sideOk with
    | false =>
      have hF := Lib.hid hfew
      have hS := Lib.hid hsd
      have HV := Lib.hid h
      clear hfew h hsd
      go_enter Try.func11, Try.ntmps11
      go_wp2_with fail
      refine (law10_speaks _).mono ?_
      rintro e w1 ⟨rfl, hw1⟩
      go_wp2_with fail
      refine (law09_few (HV.out.after hw1) 40).mono ?_
      rintro e w2 ⟨rfl, hw2⟩
      rw [hF.out]
      go_wp2_with fail
      refine (law10_sides ((HV.out.after hw1).after hw2)).mono ?_
      rintro e w3 ⟨rfl, hw3⟩
      rw [hS.out]
      go_wp2_with fail
      refine (law10_speaks _).mono ?_
      rintro e w4 ⟨rfl, hw4⟩
      go_wp2
      go_ret
      exact ⟨rfl, ((hw1.trans hw2).trans hw3).trans hw4⟩
    | true =>
      have hsm : fs.all smallF = true := by unfold fewB at hfew; simp only [Bool.and_eq_true] at hfew; exact hfew.1
      have hln : fs.length ≤ 40 := by unfold fewB at hfew; simp only [Bool.and_eq_true, decide_eq_true_eq] at hfew; have := hfew.2; omega
      have hF := Lib.hid hfew
      have hS := Lib.hid hsd
      have hM := Lib.hid hsm
      have HV := Lib.hid h
      clear hfew h hsd hsm
      go_enter Try.func11, Try.ntmps11
      go_wp2_with fail
      refine (law10_speaks _).mono ?_
      rintro e w1 ⟨rfl, hw1⟩
      go_wp2_with fail
      refine (law09_few (HV.out.after hw1) 40).mono ?_
      rintro e w2 ⟨rfl, hw2⟩
      rw [hF.out]
      go_wp2_with fail
      refine (law10_sides ((HV.out.after hw1).after hw2)).mono ?_
      rintro e w3 ⟨rfl, hw3⟩
      rw [hS.out]
      have A3 := (hw1.trans hw2).trans hw3
      clear hw1 hw2 hw3
      go_wp2_with fail
      refine (law10_begin (HV.out.after A3) hM.out hS.out (by omega)).mono ?_
      rintro e w4 ⟨S, L, g, cap, fv, rfl, s4, hw4⟩
      have S4 := Lib.hid s4
      have A4 := Lib.hid (A3.trans hw4)
      clear s4 hw4
      go_wp2_with fail
      refine (space_last S4.out).mono ?_
      rintro e w5 ⟨rfl, hw5⟩
      have a5 := Lib.hid hw5
      clear hw5
      go_wp2_with fail
      refine (ref10_last (HV.out.after (A4.out.trans a5.out))).mono ?_
      rintro e w6 ⟨rfl, hw6⟩
      have a6 := Lib.hid (a5.out.trans hw6)
      clear hw6
      go_wp2_with fail
      refine name_world (fun W7 hW7 => ?_)
      have b7 : Blk W7 w6.heap.size 3 #[.int .i64 0, .int .i64 1, .int .i64 2, .int .i64 3] := by rw [hW7]; exact Blk.new _ _ _
      have a7 : After w4 W7 := by rw [hW7]; exact a6.out.alloc _
      clear hW7
      go_loopw [54] (fun v wr => TellsRel v W7 wr) (fun v _ => 5 - (intOf v).toNat)
      case atStart => exact ⟨0, rfl, by decide, After.refl _⟩
      case round =>
        obtain ⟨k, rfl, hk, hr⟩ := hrel
        have ar := Lib.hid (a7.trans hr)
        by_cases hlt : k < 4
        · have hcell : wr.cell? ⟨w6.heap.size, k, none⟩ = some (.int .i64 (k : Int)) := by
            rw [(b7.after hr).cell]
            rcases (show k = 0 ∨ k = 1 ∨ k = 2 ∨ k = 3 by omega) with rfl | rfl | rfl | rfl <;> rfl
          have C1 := fun (w' : World) (hw' : After wr w') => space_bottom (S4.out.after (ar.out.trans hw')) (k : Int)
          have C2 := fun (w' : World) (hw' : After wr w') => ref10_bottom (HV.out.after (A4.out.trans (ar.out.trans hw'))) (k : Int)
          have C3 := fun (w' : World) (hw' : After wr w') => space_clear (S4.out.after (ar.out.trans hw')) (k : Int) y
          have C4 := fun (w' : World) (hw' : After wr w') => ref10_clear (HV.out.after (A4.out.trans (ar.out.trans hw'))) (k : Int) y
          rw [bottom_eq (by omega) (by omega)] at C1
          rw [clear_eq (by omega) (by omega)] at C3
          generalize botOf (k : Int) fs = be at C1 C2
          generalize clearRef (k : Int) y fs = ce at C3 C4
          have D1 := Lib.hid C1
          have D2 := Lib.hid C2
          have D3 := Lib.hid C3
          have D4 := Lib.hid C4
          clear C1 C2 C3 C4
          go_wp2_with fail
          refine (D1.out _ (After.refl _)).mono ?_
          rintro e u1 ⟨rfl, hu1⟩
          have x1 := Lib.hid hu1
          clear hu1
          go_wp2_with fail
          refine (D2.out _ x1.out).mono ?_
          rintro e u2 ⟨rfl, hu2⟩
          have x2 := Lib.hid (x1.out.trans hu2)
          clear hu2
          go_wp2_with fail
          refine (D3.out _ x2.out).mono ?_
          rintro e u3 ⟨rfl, hu3⟩
          have x3 := Lib.hid (x2.out.trans hu3)
          clear hu3
          go_wp2_with fail
          refine (D4.out _ x3.out).mono ?_
          rintro e u4 ⟨rfl, hu4⟩
          have x4 := Lib.hid (x3.out.trans hu4)
          clear hu4
          go_wp2_with fail
          go_roundw
          case rel => exact ⟨k + 1, by go_num, by omega, hr.trans x4.out⟩
          case measure => simp [intOf]; omega
        · have hk4 : k = 4 := by omega
          subst hk4
          go_wp2_with fail
          refine (space_floats (S4.out.after ar.out) (by omega)).mono ?_
          rintro e u1 ⟨v2, rfl, hv2, hu1⟩
          have y1 := Lib.hid (A4.out.trans (ar.out.trans hu1))
          obtain ⟨ad, cp, hv, hlen, hlc, hcell⟩ := (HV.out.after y1.out).split
          obtain ⟨ad2, cp2, hv2e, hlen2, hlc2, hcell2⟩ := hv2.split
          subst hv2e
          subst hv
          have HC := Lib.hid hcell
          have HC2 := Lib.hid hcell2
          clear hcell hcell2 hv2 hu1
          go_wp2_with fail
          go_loopw [99] (fun v wr => TellsRel2 fs v u1 wr) (fun v _ => fs.length + 1 - (intOf v).toNat)
          case atStart => exact ⟨0, rfl, Nat.zero_le _, After.refl _⟩
          case round =>
            obtain ⟨j, rfl, hj, hA⟩ := hrel
            by_cases hjl : j < fs.length
            · obtain ⟨f, hf⟩ : ∃ f, fs[j]? = some f := ⟨_, List.getElem?_eq_getElem hjl⟩
              obtain ⟨b, o, rfl, hb, hca⟩ := HC.out j f hf
              obtain ⟨b2, o2, rfl, hb2, hca2⟩ := HC2.out j f hf
              obtain ⟨c0, c1, c2, c3, c4⟩ := hca2.after hb2 hA
              have Hca := Lib.hid hca
              clear hf hca hca2
              go_wp2_with fail
              refine name_world (fun W8 hW8 => ?_)
              have A8 : After wr W8 := by rw [hW8]; exact (After.refl _).alloc _
              have b8 : Blk W8 wr.heap.size 84 #[.int .i64 f.side, .int .i64 f.l, .int .i64 f.t, .int .i64 f.r, .int .i64 f.b] := by rw [hW8]; exact Blk.new _ _ _
              clear hW8
              obtain ⟨d0, d1, d2, d3, d4⟩ := Hca.out.after hb (hA.trans A8)
              have hbl : b < W8.heap.size := Nat.lt_of_lt_of_le hb (hA.trans A8).size
              have k0 := b8.cell 0
              have k1 := b8.cell 1
              have k2 := b8.cell 2
              have k3 := b8.cell 3
              have k4 := b8.cell 4
              simp at k0 k1 k2 k3 k4
              have q0 := fun n os => cell_grown (w := W8) b8.lt k0 n os
              have q1 := fun n os => cell_grown (w := W8) b8.lt k1 n os
              have q2 := fun n os => cell_grown (w := W8) b8.lt k2 n os
              have q3 := fun n os => cell_grown (w := W8) b8.lt k3 n os
              have q4 := fun n os => cell_grown (w := W8) b8.lt k4 n os
              have m0 := fun n os => cell_grown (w := W8) hbl d0 n os
              have m1 := fun n os => cell_grown (w := W8) hbl d1 n os
              have m2 := fun n os => cell_grown (w := W8) hbl d2 n os
              have m3 := fun n os => cell_grown (w := W8) hbl d3 n os
              have m4 := fun n os => cell_grown (w := W8) hbl d4 n os
              clear c0 c1 c2 c3 c4 d0 d1 d2 d3 d4 k0 k1 k2 k3 k4
              go_quiet_grown ((go_at_call 46; exact Calls.grown_after (law02_of _ _ _ _ _)))
              generalize hw9 : grow (W8.drewN _) _ = w9
              have A9 : After W8 w9 := hw9 ▸ After.of_grown _ _
              clear hw9 q0 q1 q2 q3 q4 m0 m1 m2 m3 m4
              go_wp2_with fail
              go_roundw
              case rel => exact ⟨j + 1, by go_num, by omega, (hA.trans A8).trans A9⟩
              case measure => simp [intOf]; omega
            · have e0 : j = fs.length := by omega
              go_wp2_with fail
              go_ret
              exact ⟨rfl, y1.out.trans hA⟩
end Go.Proofs.Ytefbeekjoafijaa
