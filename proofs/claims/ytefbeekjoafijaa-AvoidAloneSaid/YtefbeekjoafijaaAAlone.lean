/- Walk of AvoidAlone. -/
import Derived.Test.YtefbeekjoafijaaGuard12
import Derived.OpenShut
namespace Go.Proofs.Ytefbeekjoafijaa
open Go.RowKit Go.Sort
set_option linter.unusedVariables false
set_option linter.unusedSimpArgs false
attribute [local irreducible] wpQuiet


set_option maxRecDepth 100000 in
set_option maxHeartbeats 8000000 in
theorem avoidAlone {w : World} {v : Value} {fs : List Flt} (h : FlsAt w v fs) (a b wd ht y : Int) (ls : Int) (hls : (Lit.int .u8 ls).wf = true) : Calls Try.prog 7 #[v, .agg #[.int .i64 a, .int .i64 b, .int .i64 wd, .int .i64 ht, .int .i64 y], .int .u8 ls] w (Ret (.bool true) w) := by
  have hmix := mixed
  have HB0 := Lib.hid (Blk.new w 55 #[.int .i64 a, .int .i64 b, .int .i64 wd, .int .i64 ht, .int .i64 y])
  have HA0 := Lib.hid ((After.refl w).alloc (.cells #[.int .i64 a, .int .i64 b, .int .i64 wd, .int .i64 ht, .int .i64 y] 55))
  have HV := Lib.hid h
  clear h
  cases hn : nearB fs 30 with
  | false =>
    have HN := Lib.hid hn
    clear hn
    go_enter Try.func7, Try.ntmps7
    go_wp2_with fail
    refine (law12_begin (HV.out.after HA0.out) 30 (by decide)).mono ?_
    rintro e w1 (⟨_, rfl, hw1⟩ | ⟨hh, _⟩)
    · go_wp2_with fail
      refine (space_new _).mono ?_
      rintro e w2 ⟨S2, L2, g2, cap2, fv2, rfl, hs2, hw2⟩
      go_wp2_with fail
      refine (law12_speaks _).mono ?_
      rintro e w3 ⟨rfl, hw3⟩
      go_wp2_with fail
      refine (law12_speaks _).mono ?_
      rintro e w4 ⟨rfl, hw4⟩
      go_wp2
      go_ret
      exact ⟨rfl, HA0.out.trans (hw1.trans (hw2.trans (hw3.trans hw4)))⟩
    · rw [HN.out] at hh; cases hh
  | true =>
    have hall : fs.all smallF = true := by unfold nearB at hn; simp only [Bool.and_eq_true] at hn; exact (all_small hn.1).1
    have hlen : fs.length ≤ 30 := by unfold nearB at hn; simp only [Bool.and_eq_true, decide_eq_true_eq] at hn; have := hn.2; omega
    have HALL := Lib.hid hall
    have HN := Lib.hid hn
    clear hn hall
    cases hr : rightA a b wd ht y with
    | false =>
      have HR := Lib.hid hr
      clear hr
      go_enter Try.func7, Try.ntmps7
      go_wp2_with fail
      refine (law12_begin (HV.out.after HA0.out) 30 (by decide)).mono ?_
      rintro e w1 (⟨hh, _⟩ | ⟨_, S, L, g, cap, fv, rfl, hs, hw1⟩)
      · rw [HN.out] at hh; cases hh
      · have HS1 := Lib.hid hs
        clear hs
        go_wp2_with fail
        refine (space_new _).mono ?_
        rintro e w2 ⟨S2, L2, g2, cap2, fv2, rfl, hs2, hw2⟩
        have HS2 := Lib.hid hs2
        clear hs2
        go_wp2_with fail
        refine (law12_speaks _).mono ?_
        rintro e w3 ⟨rfl, hw3⟩
        have A3 := Lib.hid (HA0.out.trans (hw1.trans (hw2.trans hw3)))
        have B3 := Lib.hid (HB0.out.after (hw1.trans (hw2.trans hw3)))
        have S3 := Lib.hid (HS1.out.after (hw2.trans hw3))
        have N3 := Lib.hid (HS2.out.after hw3)
        clear hw2
        clear hw1 hw3
        have k0 := B3.out.cell 0
        have k1 := B3.out.cell 1
        have k2 := B3.out.cell 2
        have k3 := B3.out.cell 3
        have k4 := B3.out.cell 4
        simp at k0 k1 k2 k3 k4
        go_wp2_with fail
        refine (ref12_right a b wd ht y _).mono ?_
        rintro e w4 ⟨rfl, hw4⟩
        rw [HR.out]
        have A4 := Lib.hid (A3.out.trans hw4)
        have B4 := Lib.hid (B3.out.after hw4)
        have S4 := Lib.hid (S3.out.after hw4)
        have N4 := Lib.hid (N3.out.after hw4)
        clear hw4 k0 k1 k2 k3 k4
        go_wp2_with fail
        refine (law12_speaks _).mono ?_
        rintro e w5 ⟨rfl, hw5⟩
        go_wp2
        go_ret
        exact ⟨rfl, A4.out.trans hw5⟩
    | true =>
      obtain ⟨ra, rb, rc, rd, re, r0⟩ := rightA_parts hr
      have HR := Lib.hid hr
      clear hr
      go_enter Try.func7, Try.ntmps7
      go_wp2_with fail
      refine (law12_begin (HV.out.after HA0.out) 30 (by decide)).mono ?_
      rintro e w1 (⟨hh, _⟩ | ⟨_, S, L, g, cap, fv, rfl, hs, hw1⟩)
      · rw [HN.out] at hh; cases hh
      · have HS1 := Lib.hid hs
        clear hs
        go_wp2_with fail
        refine (space_new _).mono ?_
        rintro e w2 ⟨S2, L2, g2, cap2, fv2, rfl, hs2, hw2⟩
        have HS2 := Lib.hid hs2
        clear hs2
        go_wp2_with fail
        refine (law12_speaks _).mono ?_
        rintro e w3 ⟨rfl, hw3⟩
        have A3 := Lib.hid (HA0.out.trans (hw1.trans (hw2.trans hw3)))
        have B3 := Lib.hid (HB0.out.after (hw1.trans (hw2.trans hw3)))
        have S3 := Lib.hid (HS1.out.after (hw2.trans hw3))
        have N3 := Lib.hid (HS2.out.after hw3)
        clear hw2
        clear hw1 hw3
        have k0 := B3.out.cell 0
        have k1 := B3.out.cell 1
        have k2 := B3.out.cell 2
        have k3 := B3.out.cell 3
        have k4 := B3.out.cell 4
        simp at k0 k1 k2 k3 k4
        go_wp2_with fail
        refine (ref12_right a b wd ht y _).mono ?_
        rintro e w4 ⟨rfl, hw4⟩
        rw [HR.out]
        have A4 := Lib.hid (A3.out.trans hw4)
        have B4 := Lib.hid (B3.out.after hw4)
        have S4 := Lib.hid (S3.out.after hw4)
        have N4 := Lib.hid (N3.out.after hw4)
        clear hw4 k0 k1 k2 k3 k4
        obtain ⟨ls1, ls2⟩ := bounds_u8 hls
        have k0 := B4.out.cell 0
        have k1 := B4.out.cell 1
        have k2 := B4.out.cell 2
        have k3 := B4.out.cell 3
        have k4 := B4.out.cell 4
        simp at k0 k1 k2 k3 k4
        have A0 := ra
        have B0 := rb
        have C0 := rc
        have E0 := re
        unfold L48 at A0 B0 C0 E0
        obtain ⟨wn, hwn⟩ : ∃ wn, max 0 (wd - ls) = wn := ⟨_, rfl⟩
        have rc2 : L48 wn := by unfold L48; omega
        have hle0 : wn ≤ wd := by omega
        have hwl : IntKind.i64.wrap ls = ls := by rw [IntKind.wrap_i64]; omega
        have hwb : IntKind.i64.wrap (wd - ls) = wd - ls := by rw [IntKind.wrap_i64]; omega
        obtain ⟨al1, al2⟩ := find_alone (ht := ht) ra rb rc re
        obtain ⟨z, hz⟩ : ∃ z, firstOf fs ht (fitsQ a b wd) y = z := ⟨_, rfl⟩
        obtain ⟨x, hx⟩ : ∃ x, max a (bandAt fs z ht).1 = x := ⟨_, rfl⟩
        obtain ⟨z2, hz2⟩ : ∃ z, firstOf fs ht (fitsQ a b wn) y = z := ⟨_, rfl⟩
        obtain ⟨x2, hx2⟩ : ∃ x, max a (bandAt fs z2 ht).1 = x := ⟨_, rfl⟩
        have hle : z2 ≤ z := by rw [← hz, ← hz2]; exact find_thin fs ra rb rc rc2 re hle0
        have CN := Lib.hid (fun (w' : World) (hw' : After w4 w') => find_c (N4.out.after hw') (by rfl) ra rb rc rd re al1 al2)
        have CS := Lib.hid (fun (w' : World) (hw' : After w4 w') => find_c (S4.out.after hw') HALL.out ra rb rc rd re hz hx)
        have CT := Lib.hid (fun (w' : World) (hw' : After w4 w') => find_c (S4.out.after hw') HALL.out ra rb rc2 rd re hz2 hx2)
        clear hz hx hz2 hx2 al1 al2
        go_wp2_with fail
        refine (law12_of a b wd ht y _).mono ?_
        rintro e w5 ⟨rfl, hw5⟩
        clear k0 k1 k2 k3 k4
        go_wp2_with fail
        refine (CN.out _ hw5).mono ?_
        rintro e w6 ⟨rfl, hw6⟩
        have r7 := Blk.new w6 59 #[.int .i64 a, .int .i64 y, .int .i64 (a + wd), .int .i64 (y + ht)]
        have A7 := Lib.hid (show After w4 (w6.alloc (.cells #[.int .i64 a, .int .i64 y, .int .i64 (a + wd), .int .i64 (y + ht)] 59)) from (hw5.trans hw6).alloc _)
        have B7 := Lib.hid (B4.out.after A7.out)
        have k0 := B7.out.cell 0
        have k1 := B7.out.cell 1
        have k2 := B7.out.cell 2
        have k3 := B7.out.cell 3
        have k4 := B7.out.cell 4
        simp at k0 k1 k2 k3 k4
        have n0 := r7.cell 0
        have n1 := r7.cell 1
        simp at n0 n1
        have Bw0 := Blk.new (w6.alloc (.cells #[.int .i64 a, .int .i64 y, .int .i64 (a + wd), .int .i64 (y + ht)] 59)) 55 #[.int .i64 a, .int .i64 b, .int .i64 wn, .int .i64 ht, .int .i64 y]
        rw [World.size_alloc] at Bw0
        have Bw := Lib.hid Bw0
        clear Bw0
        have Aw := Lib.hid (A7.out.alloc (.cells #[.int .i64 a, .int .i64 b, .int .i64 wn, .int .i64 ht, .int .i64 y] 55))
        have Bm := Lib.hid (B4.out.after Aw.out)
        have k2a := fun o => (B7.out.alloc o).cell 2
        simp at k2a
        clear r7
        go_wp2_with fail
        all_goals
          first
            | rw [show (Obj.cells #[.int .i64 a, .int .i64 b, .int .i64 0, .int .i64 ht, .int .i64 y] 55) = Obj.cells #[.int .i64 a, .int .i64 b, .int .i64 wn, .int .i64 ht, .int .i64 y] 55 by rw [show wn = 0 by omega]]
            | rw [show (Obj.cells #[.int .i64 a, .int .i64 b, .int .i64 (wd - ls), .int .i64 ht, .int .i64 y] 55) = Obj.cells #[.int .i64 a, .int .i64 b, .int .i64 wn, .int .i64 ht, .int .i64 y] 55 by rw [show wn = wd - ls by omega]]
          generalize hW5 : World.alloc (World.alloc w6 _) _ = W5 at Bw Aw Bm ⊢
          have CF1 := Lib.hid (fun (w' : World) (hw' : After W5 w') => CS.out w' (Aw.out.trans hw'))
          have CF2 := Lib.hid (fun (w' : World) (hw' : After W5 w') => CT.out w' (Aw.out.trans hw'))
          clear hW5 k0 k1 k2 k3 k4 n0 n1 k2a CS CT CN
          have k0 := Bm.out.cell 0
          have m0 := Bw.out.cell 0
          have k1 := Bm.out.cell 1
          have m1 := Bw.out.cell 1
          have k2 := Bm.out.cell 2
          have m2 := Bw.out.cell 2
          have k3 := Bm.out.cell 3
          have m3 := Bw.out.cell 3
          have k4 := Bm.out.cell 4
          have m4 := Bw.out.cell 4
          simp at k0 k1 k2 k3 k4 m0 m1 m2 m3 m4
          have q0 := fun n os => cell_grown (w := W5) Bm.out.lt k0 n os
          have r0 := fun n os => cell_grown (w := W5) Bw.out.lt m0 n os
          have q1 := fun n os => cell_grown (w := W5) Bm.out.lt k1 n os
          have r1 := fun n os => cell_grown (w := W5) Bw.out.lt m1 n os
          have q2 := fun n os => cell_grown (w := W5) Bm.out.lt k2 n os
          have r2 := fun n os => cell_grown (w := W5) Bw.out.lt m2 n os
          have q3 := fun n os => cell_grown (w := W5) Bm.out.lt k3 n os
          have r3 := fun n os => cell_grown (w := W5) Bw.out.lt m3 n os
          have q4 := fun n os => cell_grown (w := W5) Bm.out.lt k4 n os
          have r4 := fun n os => cell_grown (w := W5) Bw.out.lt m4 n os
          clear k0 k1 k2 k3 k4 m0 m1 m2 m3 m4
          go_wp2_with fail
          refine wp_region_fresh 10 [(8, .cells #[.int .i64 0, .int .i64 0, .int .i64 0, .int .i64 0] 59), (9, .cells #[.int .i64 0, .int .i64 0, .int .i64 0, .int .i64 0] 59)] hmix (by kernel_rfl) (lays_of (by decide) (by kernel_rfl) (lays_cons rfl rfl (fun _ => rfl) (al_rect _ rfl) (lays_cons rfl rfl (fun _ => rfl) (al_rect _ rfl) (fun x hx => by cases hx)))) ?_
          simp only [List.take_succ_cons, List.take_zero, List.drop_succ_cons, List.drop_zero]
          iterate 4 (first
            | refine wpFresh_al rfl ?_
            | (refine wpFresh_step rfl (fun KK hKK => ?_)
               go_simp
               first
                 | (refine hKK _ ?_; clear hKK KK)
                 | (apply Exists.intro
                    refine ⟨fun p => ?_, hKK _ ?_⟩
                    (first
                      | (go_at_call 42; exact law12_of _ _ _ _ _ _)
                      | (go_at_call 41; exact CF1.out _ (gw_after _ p)))
                    clear hKK KK)))
          repeat (first
            | refine wpFresh_al rfl ?_
            | (refine wpFresh_step rfl (fun KK hKK => ?_)
               go_simp
               first
                 | (refine hKK _ ?_; clear hKK KK)
                 | (apply Exists.intro
                    refine ⟨fun p => ?_, hKK _ ?_⟩
                    (first
                      | (go_at_call 42; exact law12_of _ _ _ _ _ _)
                      | (go_at_call 41; exact CF2.out _ (gw_after _ p)))
                    clear hKK KK)))
          refine wpFresh_nil ?_
          intro P Q wx hL
          obtain ⟨AX, ⟨bP0, hPl⟩, ⟨bQ0, hQl⟩, hPQ⟩ := hL.two (by decide)
          have bP : Blk wx P 59 #[.int .i64 0, .int .i64 0, .int .i64 0, .int .i64 0] := bP0
          have bQ : Blk wx Q 59 #[.int .i64 0, .int .i64 0, .int .i64 0, .int .i64 0] := bQ0
          clear hL bP0 bQ0 q0 q1 q2 q3 q4 r0 r1 r2 r3 r4
          obtain ⟨wm, hwm⟩ : ∃ wm, (((wx.setCell ⟨P, 0, none⟩ (.int .i64 x)).setCell ⟨P, 1, none⟩ (.int .i64 z)).setCell ⟨P, 2, none⟩ (.int .i64 (x + wd))).setCell ⟨P, 3, none⟩ (.int .i64 (z + ht)) = wm := ⟨_, rfl⟩
          have bP2 : Blk wm P 59 #[.int .i64 x, .int .i64 z, .int .i64 (x + wd), .int .i64 (z + ht)] := hwm ▸ ((((bP.set_ 0 _).set_ 1 _).set_ 2 _).set_ 3 _)
          have bQ2 : Blk wm Q 59 #[.int .i64 0, .int .i64 0, .int .i64 0, .int .i64 0] := hwm ▸ ((((bQ.far (p := ⟨P, 0, none⟩) (Ne.symm hPQ) _).far (p := ⟨P, 1, none⟩) (Ne.symm hPQ) _).far (p := ⟨P, 2, none⟩) (Ne.symm hPQ) _).far (p := ⟨P, 3, none⟩) (Ne.symm hPQ) _)
          have AM : After W5 wm := hwm ▸ ((((AX.setCell hPl _).setCell hPl _).setCell hPl _).setCell hPl _)
          obtain ⟨wy, hwy⟩ : ∃ wy, (((wm.setCell ⟨Q, 0, none⟩ (.int .i64 x2)).setCell ⟨Q, 1, none⟩ (.int .i64 z2)).setCell ⟨Q, 2, none⟩ (.int .i64 (x2 + wn))).setCell ⟨Q, 3, none⟩ (.int .i64 (z2 + ht)) = wy := ⟨_, rfl⟩
          have HP := Lib.hid (show Blk wy P 59 #[.int .i64 x, .int .i64 z, .int .i64 (x + wd), .int .i64 (z + ht)] from hwy ▸ ((((bP2.far (p := ⟨Q, 0, none⟩) hPQ _).far (p := ⟨Q, 1, none⟩) hPQ _).far (p := ⟨Q, 2, none⟩) hPQ _).far (p := ⟨Q, 3, none⟩) hPQ _))
          have HQ := Lib.hid (show Blk wy Q 59 #[.int .i64 x2, .int .i64 z2, .int .i64 (x2 + wn), .int .i64 (z2 + ht)] from hwy ▸ ((((bQ2.set_ 0 _).set_ 1 _).set_ 2 _).set_ 3 _))
          have A6 := Lib.hid (show After W5 wy from hwy ▸ ((((AM.setCell hQl _).setCell hQl _).setCell hQl _).setCell hQl _))
          have k0 := bP.cell 0
          have f0 := bP.frozen 0
          have m0 := bQ2.cell 0
          have g0 := bQ2.frozen 0
          have k1 := bP.cell 1
          have f1 := bP.frozen 1
          have m1 := bQ2.cell 1
          have g1 := bQ2.frozen 1
          have k2 := bP.cell 2
          have f2 := bP.frozen 2
          have m2 := bQ2.cell 2
          have g2 := bQ2.frozen 2
          have k3 := bP.cell 3
          have f3 := bP.frozen 3
          have m3 := bQ2.cell 3
          have g3 := bQ2.frozen 3
          simp at k0 k1 k2 k3 m0 m1 m2 m3
          clear bP bQ bP2 bQ2 AX AM hPQ
          have n1 := HP.out.cell 1
          have n2 := HQ.out.cell 1
          simp at n1 n2
          have A06 := Lib.hid (A4.out.trans (Aw.out.trans A6.out))
          go_wp2_with fail
          go_ret
          exact ⟨ret_bool (by simp [hle]), A06.out⟩
end Go.Proofs.Ytefbeekjoafijaa
