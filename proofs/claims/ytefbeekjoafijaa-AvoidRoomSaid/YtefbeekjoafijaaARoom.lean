/- Walk of AvoidRoom. -/
import Derived.Test.YtefbeekjoafijaaGuard12
import Derived.OpenShut
namespace Go.Proofs.Ytefbeekjoafijaa
open Go.RowKit Go.Sort
set_option linter.unusedVariables false
set_option linter.unusedSimpArgs false
attribute [local irreducible] wpQuiet


set_option maxRecDepth 100000 in
set_option maxHeartbeats 8000000 in
theorem avoidRoom {w : World} {v : Value} {fs : List Flt} (h : FlsAt w v fs) (a b wd ht y : Int) (ls : Int) (hls : (Lit.int .u8 ls).wf = true) (dn : Int) (hdn : (Lit.int .u8 dn).wf = true) : Calls Try.prog 8 #[v, .agg #[.int .i64 a, .int .i64 b, .int .i64 wd, .int .i64 ht, .int .i64 y], .int .u8 ls, .int .u8 dn] w (Ret (.bool true) w) := by
  have hmix := mixed
  have HB0 := Lib.hid (Blk.new w 55 #[.int .i64 a, .int .i64 b, .int .i64 wd, .int .i64 ht, .int .i64 y])
  have HA0 := Lib.hid ((After.refl w).alloc (.cells #[.int .i64 a, .int .i64 b, .int .i64 wd, .int .i64 ht, .int .i64 y] 55))
  have HV := Lib.hid h
  clear h
  cases hn : nearB fs 30 with
  | false =>
    have HN := Lib.hid hn
    clear hn
    go_enter Try.func8, Try.ntmps8
    go_wp2_with fail
    refine (law12_begin (HV.out.after HA0.out) 30 (by decide)).mono ?_
    rintro e w1 (⟨_, rfl, hw1⟩ | ⟨hh, _⟩)
    · go_wp2_with fail
      refine (law12_speaks _).mono ?_
      rintro e w3 ⟨rfl, hw3⟩
      go_wp2_with fail
      refine (law12_speaks _).mono ?_
      rintro e w4 ⟨rfl, hw4⟩
      go_wp2
      go_ret
      exact ⟨rfl, HA0.out.trans (hw1.trans (hw3.trans hw4))⟩
    · rw [HN.out] at hh; cases hh
  | true =>
    have hall : fs.all smallF = true := by unfold nearB at hn; simp only [Bool.and_eq_true] at hn; exact (all_small hn.1).1
    have hlen : fs.length ≤ 30 := by unfold nearB at hn; simp only [Bool.and_eq_true, decide_eq_true_eq] at hn; have := hn.2; omega
    have HALL := Lib.hid hall
    have HN := Lib.hid hn
    clear hn hall
    cases hr : rightA a b wd ht y with
    | false =>
      have HR := Lib.hid hr
      clear hr
      go_enter Try.func8, Try.ntmps8
      go_wp2_with fail
      refine (law12_begin (HV.out.after HA0.out) 30 (by decide)).mono ?_
      rintro e w1 (⟨hh, _⟩ | ⟨_, S, L, g, cap, fv, rfl, hs, hw1⟩)
      · rw [HN.out] at hh; cases hh
      · have HS1 := Lib.hid hs
        clear hs
        go_wp2_with fail
        refine (law12_speaks _).mono ?_
        rintro e w3 ⟨rfl, hw3⟩
        have A3 := Lib.hid (HA0.out.trans (hw1.trans hw3))
        have B3 := Lib.hid (HB0.out.after (hw1.trans hw3))
        have S3 := Lib.hid (HS1.out.after hw3)
        clear hw1 hw3
        have k0 := B3.out.cell 0
        have k1 := B3.out.cell 1
        have k2 := B3.out.cell 2
        have k3 := B3.out.cell 3
        have k4 := B3.out.cell 4
        simp at k0 k1 k2 k3 k4
        go_wp2_with fail
        refine (ref12_right a b wd ht y _).mono ?_
        rintro e w4 ⟨rfl, hw4⟩
        rw [HR.out]
        have A4 := Lib.hid (A3.out.trans hw4)
        have B4 := Lib.hid (B3.out.after hw4)
        have S4 := Lib.hid (S3.out.after hw4)
        clear hw4 k0 k1 k2 k3 k4
        go_wp2_with fail
        refine (law12_speaks _).mono ?_
        rintro e w5 ⟨rfl, hw5⟩
        go_wp2
        go_ret
        exact ⟨rfl, A4.out.trans hw5⟩
    | true =>
      obtain ⟨ra, rb, rc, rd, re, r0⟩ := rightA_parts hr
      have HR := Lib.hid hr
      clear hr
      go_enter Try.func8, Try.ntmps8
      go_wp2_with fail
      refine (law12_begin (HV.out.after HA0.out) 30 (by decide)).mono ?_
      rintro e w1 (⟨hh, _⟩ | ⟨_, S, L, g, cap, fv, rfl, hs, hw1⟩)
      · rw [HN.out] at hh; cases hh
      · have HS1 := Lib.hid hs
        clear hs
        go_wp2_with fail
        refine (law12_speaks _).mono ?_
        rintro e w3 ⟨rfl, hw3⟩
        have A3 := Lib.hid (HA0.out.trans (hw1.trans hw3))
        have B3 := Lib.hid (HB0.out.after (hw1.trans hw3))
        have S3 := Lib.hid (HS1.out.after hw3)
        clear hw1 hw3
        have k0 := B3.out.cell 0
        have k1 := B3.out.cell 1
        have k2 := B3.out.cell 2
        have k3 := B3.out.cell 3
        have k4 := B3.out.cell 4
        simp at k0 k1 k2 k3 k4
        go_wp2_with fail
        refine (ref12_right a b wd ht y _).mono ?_
        rintro e w4 ⟨rfl, hw4⟩
        rw [HR.out]
        have A4 := Lib.hid (A3.out.trans hw4)
        have B4 := Lib.hid (B3.out.after hw4)
        have S4 := Lib.hid (S3.out.after hw4)
        clear hw4 k0 k1 k2 k3 k4
        obtain ⟨dn1, dn2⟩ := bounds_u8 hdn
        obtain ⟨ls1, ls2⟩ := bounds_u8 hls
        have k0 := B4.out.cell 0
        have k1 := B4.out.cell 1
        have k2 := B4.out.cell 2
        have k3 := B4.out.cell 3
        have k4 := B4.out.cell 4
        simp at k0 k1 k2 k3 k4
        by_cases hY : 140737488355328 < y
        · go_wp2_with fail
          refine (law12_speaks _).mono ?_
          rintro e w5 ⟨rfl, hw5⟩
          go_wp2
          go_ret
          exact ⟨rfl, A4.out.trans hw5⟩
        · have A0 := ra
          have B0 := rb
          have C0 := rc
          have E0 := re
          unfold L48 at A0 B0 C0 E0
          have re2 : L48 (y + dn) := by unfold L48; omega
          have hwd : IntKind.i64.wrap dn = dn := by rw [IntKind.wrap_i64]; omega
          have hwl : IntKind.i64.wrap ls = ls := by rw [IntKind.wrap_i64]; omega
          have hwy : IntKind.i64.wrap (y + dn) = y + dn := by rw [IntKind.wrap_i64]; omega
          have hwb : IntKind.i64.wrap (b - ls) = b - ls := by rw [IntKind.wrap_i64]; omega
          have hwn : IntKind.i64.wrap (b - ls - a) = b - ls - a := by rw [IntKind.wrap_i64]; omega
          obtain ⟨z, hz⟩ : ∃ z, firstOf fs ht (fitsQ a b wd) y = z := ⟨_, rfl⟩
          obtain ⟨x, hx⟩ : ∃ x, max a (bandAt fs z ht).1 = x := ⟨_, rfl⟩
          obtain ⟨z2, hz2⟩ : ∃ z, firstOf fs ht (fitsQ a b wd) (y + dn) = z := ⟨_, rfl⟩
          obtain ⟨x2, hx2⟩ : ∃ x, max a (bandAt fs z2 ht).1 = x := ⟨_, rfl⟩
          have hle : z ≤ z2 := by rw [← hz, ← hz2]; exact find_low fs ra rb rc re (by omega)
          have hroom : ¬ b - ls - a < wd → ∃ z3 x3, firstOf fs ht (fitsQ a (b - ls) wd) y = z3 ∧ max a (bandAt fs z3 ht).1 = x3 ∧ z ≤ z3 ∧ L48 (b - ls) := by
            intro hn
            have rb2 : L48 (b - ls) := by unfold L48; omega
            exact ⟨_, _, rfl, rfl, by rw [← hz]; exact find_room fs ra rb rb2 rc re (by omega) (by omega), rb2⟩
          have HROOM := Lib.hid hroom
          have Bw := Lib.hid (Blk.new w4 55 #[.int .i64 a, .int .i64 b, .int .i64 wd, .int .i64 ht, .int .i64 (y + dn)])
          have Aw := Lib.hid ((After.refl w4).alloc (.cells #[.int .i64 a, .int .i64 b, .int .i64 wd, .int .i64 ht, .int .i64 (y + dn)] 55))
          have Bm := Lib.hid (B4.out.after Aw.out)
          have CF1 := Lib.hid (fun (w' : World) (hw' : After (w4.alloc (.cells #[.int .i64 a, .int .i64 b, .int .i64 wd, .int .i64 ht, .int .i64 (y + dn)] 55)) w') => find_c (S4.out.after (Aw.out.trans hw')) HALL.out ra rb rc rd re hz hx)
          have CF2 := Lib.hid (fun (w' : World) (hw' : After (w4.alloc (.cells #[.int .i64 a, .int .i64 b, .int .i64 wd, .int .i64 ht, .int .i64 (y + dn)] 55)) w') => find_c (S4.out.after (Aw.out.trans hw')) HALL.out ra rb rc rd re2 hz2 hx2)
          clear hz hx hz2 hx2 hroom
          go_wp2_with fail
          obtain ⟨W5, hW5⟩ : ∃ W5, w4.alloc (.cells #[.int .i64 a, .int .i64 b, .int .i64 wd, .int .i64 ht, .int .i64 (y + dn)] 55) = W5 := ⟨_, rfl⟩
          rw [hW5] at Bw Aw Bm CF1 CF2 ⊢
          clear hW5 k0 k1 k2 k3 k4
          have k0 := Bm.out.cell 0
          have m0 := Bw.out.cell 0
          have k1 := Bm.out.cell 1
          have m1 := Bw.out.cell 1
          have k2 := Bm.out.cell 2
          have m2 := Bw.out.cell 2
          have k3 := Bm.out.cell 3
          have m3 := Bw.out.cell 3
          have k4 := Bm.out.cell 4
          have m4 := Bw.out.cell 4
          simp at k0 k1 k2 k3 k4 m0 m1 m2 m3 m4
          have q0 := fun n os => cell_grown (w := W5) Bm.out.lt k0 n os
          have r0 := fun n os => cell_grown (w := W5) Bw.out.lt m0 n os
          have q1 := fun n os => cell_grown (w := W5) Bm.out.lt k1 n os
          have r1 := fun n os => cell_grown (w := W5) Bw.out.lt m1 n os
          have q2 := fun n os => cell_grown (w := W5) Bm.out.lt k2 n os
          have r2 := fun n os => cell_grown (w := W5) Bw.out.lt m2 n os
          have q3 := fun n os => cell_grown (w := W5) Bm.out.lt k3 n os
          have r3 := fun n os => cell_grown (w := W5) Bw.out.lt m3 n os
          have q4 := fun n os => cell_grown (w := W5) Bm.out.lt k4 n os
          have r4 := fun n os => cell_grown (w := W5) Bw.out.lt m4 n os
          clear k0 k1 k2 k3 k4 m0 m1 m2 m3 m4
          go_wp2_with fail
          refine wp_region_fresh 10 [(8, .cells #[.int .i64 0, .int .i64 0, .int .i64 0, .int .i64 0] 59), (9, .cells #[.int .i64 0, .int .i64 0, .int .i64 0, .int .i64 0] 59)] hmix (by kernel_rfl) (lays_of (by decide) (by kernel_rfl) (lays_cons rfl rfl (fun _ => rfl) (al_rect _ rfl) (lays_cons rfl rfl (fun _ => rfl) (al_rect _ rfl) (fun x hx => by cases hx)))) ?_
          simp only [List.take_succ_cons, List.take_zero, List.drop_succ_cons, List.drop_zero]
          iterate 4 (first
            | refine wpFresh_al rfl ?_
            | (refine wpFresh_step rfl (fun KK hKK => ?_)
               go_simp
               first
                 | (refine hKK _ ?_; clear hKK KK)
                 | (apply Exists.intro
                    refine ⟨fun p => ?_, hKK _ ?_⟩
                    (first
                      | (go_at_call 42; exact law12_of _ _ _ _ _ _)
                      | (go_at_call 41; exact CF1.out _ (gw_after _ p)))
                    clear hKK KK)))
          repeat (first
            | refine wpFresh_al rfl ?_
            | (refine wpFresh_step rfl (fun KK hKK => ?_)
               go_simp
               first
                 | (refine hKK _ ?_; clear hKK KK)
                 | (apply Exists.intro
                    refine ⟨fun p => ?_, hKK _ ?_⟩
                    (first
                      | (go_at_call 42; exact law12_of _ _ _ _ _ _)
                      | (go_at_call 41; exact CF2.out _ (gw_after _ p)))
                    clear hKK KK)))
          refine wpFresh_nil ?_
          intro P Q wx hL
          obtain ⟨AX, ⟨bP0, hPl⟩, ⟨bQ0, hQl⟩, hPQ⟩ := hL.two (by decide)
          have bP : Blk wx P 59 #[.int .i64 0, .int .i64 0, .int .i64 0, .int .i64 0] := bP0
          have bQ : Blk wx Q 59 #[.int .i64 0, .int .i64 0, .int .i64 0, .int .i64 0] := bQ0
          clear hL bP0 bQ0 q0 q1 q2 q3 q4 r0 r1 r2 r3 r4
          obtain ⟨wm, hwm⟩ : ∃ wm, (((wx.setCell ⟨P, 0, none⟩ (.int .i64 x)).setCell ⟨P, 1, none⟩ (.int .i64 z)).setCell ⟨P, 2, none⟩ (.int .i64 (x + wd))).setCell ⟨P, 3, none⟩ (.int .i64 (z + ht)) = wm := ⟨_, rfl⟩
          have bP2 : Blk wm P 59 #[.int .i64 x, .int .i64 z, .int .i64 (x + wd), .int .i64 (z + ht)] := hwm ▸ ((((bP.set_ 0 _).set_ 1 _).set_ 2 _).set_ 3 _)
          have bQ2 : Blk wm Q 59 #[.int .i64 0, .int .i64 0, .int .i64 0, .int .i64 0] := hwm ▸ ((((bQ.far (p := ⟨P, 0, none⟩) (Ne.symm hPQ) _).far (p := ⟨P, 1, none⟩) (Ne.symm hPQ) _).far (p := ⟨P, 2, none⟩) (Ne.symm hPQ) _).far (p := ⟨P, 3, none⟩) (Ne.symm hPQ) _)
          have AM : After W5 wm := hwm ▸ ((((AX.setCell hPl _).setCell hPl _).setCell hPl _).setCell hPl _)
          obtain ⟨wy, hwy⟩ : ∃ wy, (((wm.setCell ⟨Q, 0, none⟩ (.int .i64 x2)).setCell ⟨Q, 1, none⟩ (.int .i64 z2)).setCell ⟨Q, 2, none⟩ (.int .i64 (x2 + wd))).setCell ⟨Q, 3, none⟩ (.int .i64 (z2 + ht)) = wy := ⟨_, rfl⟩
          have HP := Lib.hid (show Blk wy P 59 #[.int .i64 x, .int .i64 z, .int .i64 (x + wd), .int .i64 (z + ht)] from hwy ▸ ((((bP2.far (p := ⟨Q, 0, none⟩) hPQ _).far (p := ⟨Q, 1, none⟩) hPQ _).far (p := ⟨Q, 2, none⟩) hPQ _).far (p := ⟨Q, 3, none⟩) hPQ _))
          have HQ := Lib.hid (show Blk wy Q 59 #[.int .i64 x2, .int .i64 z2, .int .i64 (x2 + wd), .int .i64 (z2 + ht)] from hwy ▸ ((((bQ2.set_ 0 _).set_ 1 _).set_ 2 _).set_ 3 _))
          have A6 := Lib.hid (show After W5 wy from hwy ▸ ((((AM.setCell hQl _).setCell hQl _).setCell hQl _).setCell hQl _))
          have k0 := bP.cell 0
          have f0 := bP.frozen 0
          have m0 := bQ2.cell 0
          have g0 := bQ2.frozen 0
          have k1 := bP.cell 1
          have f1 := bP.frozen 1
          have m1 := bQ2.cell 1
          have g1 := bQ2.frozen 1
          have k2 := bP.cell 2
          have f2 := bP.frozen 2
          have m2 := bQ2.cell 2
          have g2 := bQ2.frozen 2
          have k3 := bP.cell 3
          have f3 := bP.frozen 3
          have m3 := bQ2.cell 3
          have g3 := bQ2.frozen 3
          simp at k0 k1 k2 k3 m0 m1 m2 m3
          clear bP bQ bP2 bQ2 AX AM hPQ
          have n1 := HP.out.cell 1
          have n2 := HQ.out.cell 1
          have B6 := Lib.hid (Bm.out.after A6.out)
          have d0 := B6.out.cell 0
          have d1 := B6.out.cell 1
          have d2 := B6.out.cell 2
          have d3 := B6.out.cell 3
          have d4 := B6.out.cell 4
          have d2a := fun o => (B6.out.alloc o).cell 2
          simp at n1 n2 d0 d1 d2 d3 d4 d2a
          have A06 := Lib.hid (A4.out.trans (Aw.out.trans A6.out))
          have S6 := Lib.hid (S4.out.after (Aw.out.trans A6.out))
          clear Bw Aw Bm CF1 CF2
          by_cases hn : b - ls - a < wd
          · go_wp2_with fail
            go_ret
            exact ⟨rfl, A06.out.alloc _⟩
          · obtain ⟨z3, x3, e1, e2, hle3, rb2⟩ := HROOM.out (by omega)
            have Bn := Lib.hid (Blk.new wy 55 #[.int .i64 a, .int .i64 (b - ls), .int .i64 wd, .int .i64 ht, .int .i64 y])
            have An := Lib.hid ((After.refl wy).alloc (.cells #[.int .i64 a, .int .i64 (b - ls), .int .i64 wd, .int .i64 ht, .int .i64 y] 55))
            have CF3 := Lib.hid (fun (w' : World) (hw' : After (wy.alloc (.cells #[.int .i64 a, .int .i64 (b - ls), .int .i64 wd, .int .i64 ht, .int .i64 y] 55)) w') => find_c (S6.out.after (An.out.trans hw')) HALL.out ra rb2 rc rd re e1 e2)
            have HP7 := Lib.hid (HP.out.after An.out)
            have HA7 := Lib.hid (A06.out.trans An.out)
            clear e1 e2 HROOM
            go_wp2_with fail
            obtain ⟨W7, hW7⟩ : ∃ W7, wy.alloc (.cells #[.int .i64 a, .int .i64 (b - ls), .int .i64 wd, .int .i64 ht, .int .i64 y] 55) = W7 := ⟨_, rfl⟩
            rw [hW7] at Bn An CF3 HP7 HA7 ⊢
            clear hW7 n1 n2 d0 d1 d2 d3 d4 d2a
            clear hwm hwy k0 k1 k2 k3 m0 m1 m2 m3 f0 f1 f2 f3 g0 g1 g2 g3 hPl hQl
            have k0 := Bn.out.cell 0
            have k1 := Bn.out.cell 1
            have k2 := Bn.out.cell 2
            have k3 := Bn.out.cell 3
            have k4 := Bn.out.cell 4
            have m1 := HP7.out.cell 1
            simp at k0 k1 k2 k3 k4 m1
            have q0 := fun n os => cell_grown (w := W7) Bn.out.lt k0 n os
            have q1 := fun n os => cell_grown (w := W7) Bn.out.lt k1 n os
            have q2 := fun n os => cell_grown (w := W7) Bn.out.lt k2 n os
            have q3 := fun n os => cell_grown (w := W7) Bn.out.lt k3 n os
            have q4 := fun n os => cell_grown (w := W7) Bn.out.lt k4 n os
            have q5 := fun n os => cell_grown (w := W7) HP7.out.lt m1 n os
            have hfld : ∀ (c d e f : Int) (w : World), (Instr.field 59 (.agg #[.int .i64 c, .int .i64 d, .int .i64 e, .int .i64 f]) 1).run Try.prog w = .ok (.int .i64 d) w := fun _ _ _ _ _ => by kernel_rfl
            clear k0 k1 k2 k3 k4 m1
            go_quiet_grown (first | (go_at_call 42; exact Calls.grown_after (law12_of _ _ _ _ _ _)) | (go_at_call 41; exact Calls.grown_after (CF3.out _ (After.of_grown _ _))))
            generalize hw8 : grow (W7.drewN _) _ = w8
            have A8 : After W7 w8 := hw8 ▸ After.of_grown _ _
            clear hw8 q0 q1 q2 q3 q4 q5
            have hA8 := Lib.hid (HA7.out.trans A8)
            go_wp2_with fail
            go_ret
            exact ⟨ret_bool (by simp [hle3]), hA8.out⟩
end Go.Proofs.Ytefbeekjoafijaa
