/- Walk of AvoidTall. -/
import Derived.Test.YtefbeekjoafijaaGuard12
import Derived.OpenShut
import Derived.Deep.CutRange
import Derived.BigRegion
namespace Go.Proofs.Ytefbeekjoafijaa
open Go.RowKit Go.Sort
set_option linter.unusedVariables false
set_option linter.unusedSimpArgs false
attribute [local irreducible] wpQuiet

def Three (w wx : World) (p q r : Nat) (a b wd ht y : Int) : Prop :=
  After w wx ∧ (Blk wx p 55 #[.int .i64 a, .int .i64 b, .int .i64 wd, .int .i64 ht, .int .i64 y] ∧ w.heap.size ≤ p) ∧ (Blk wx q 55 #[.int .i64 a, .int .i64 b, .int .i64 wd, .int .i64 ht, .int .i64 y] ∧ w.heap.size ≤ q) ∧
  (Blk wx r 55 #[.int .i64 a, .int .i64 b, .int .i64 wd, .int .i64 ht, .int .i64 y] ∧ w.heap.size ≤ r) ∧ p ≠ q ∧ p ≠ r ∧ q ≠ r

theorem three_new (w : World) (t : TypeId) (c : Array Value) : Blk (((w.alloc (.cells c t)).alloc (.cells c t)).alloc (.cells c t)) w.heap.size t c ∧ Blk (((w.alloc (.cells c t)).alloc (.cells c t)).alloc (.cells c t)) (w.heap.size + 1) t c ∧ Blk (((w.alloc (.cells c t)).alloc (.cells c t)).alloc (.cells c t)) (w.heap.size + 1 + 1) t c := by
  refine ⟨((Blk.new w t c).alloc _).alloc _, ?_, ?_⟩
  · have := (Blk.new (w.alloc (.cells c t)) t c).alloc (.cells c t)
    rwa [World.size_alloc] at this
  · have := Blk.new ((w.alloc (.cells c t)).alloc (.cells c t)) t c
    rwa [World.size_alloc, World.size_alloc] at this

set_option maxRecDepth 100000 in
set_option maxHeartbeats 8000000 in
theorem avoidTall {w : World} {v : Value} {fs : List Flt} (h : FlsAt w v fs) (a b wd ht y : Int) (mr : Int) (hmr : (Lit.int .u8 mr).wf = true) : Calls Try.prog 9 #[v, .agg #[.int .i64 a, .int .i64 b, .int .i64 wd, .int .i64 ht, .int .i64 y], .int .u8 mr] w (Ret (.bool true) w) := by
  have hmix := mixed
  have HB0 := Lib.hid (Blk.new w 55 #[.int .i64 a, .int .i64 b, .int .i64 wd, .int .i64 ht, .int .i64 y])
  have HA0 := Lib.hid ((After.refl w).alloc (.cells #[.int .i64 a, .int .i64 b, .int .i64 wd, .int .i64 ht, .int .i64 y] 55))
  have HV := Lib.hid h
  clear h
  cases hn : nearB fs 30 with
  | false =>
    have HN := Lib.hid hn
    clear hn
    go_enter Try.func9, Try.ntmps9
    go_wp2_with fail
    refine (law12_begin (HV.out.after HA0.out) 30 (by decide)).mono ?_
    rintro e w1 (⟨_, rfl, hw1⟩ | ⟨hh, _⟩)
    · go_wp2_with fail
      refine (law12_speaks _).mono ?_
      rintro e w3 ⟨rfl, hw3⟩
      go_wp2_with fail
      refine (law12_speaks _).mono ?_
      rintro e w4 ⟨rfl, hw4⟩
      go_wp2
      go_ret
      exact ⟨rfl, HA0.out.trans (hw1.trans (hw3.trans hw4))⟩
    · rw [HN.out] at hh; cases hh
  | true =>
    have hall : fs.all smallF = true := by unfold nearB at hn; simp only [Bool.and_eq_true] at hn; exact (all_small hn.1).1
    have hlen : fs.length ≤ 30 := by unfold nearB at hn; simp only [Bool.and_eq_true, decide_eq_true_eq] at hn; have := hn.2; omega
    have HALL := Lib.hid hall
    have HN := Lib.hid hn
    clear hn hall
    cases hr : rightA a b wd ht y with
    | false =>
      have HR := Lib.hid hr
      clear hr
      go_enter Try.func9, Try.ntmps9
      go_wp2_with fail
      refine (law12_begin (HV.out.after HA0.out) 30 (by decide)).mono ?_
      rintro e w1 (⟨hh, _⟩ | ⟨_, S, L, g, cap, fv, rfl, hs, hw1⟩)
      · rw [HN.out] at hh; cases hh
      · have HS1 := Lib.hid hs
        clear hs
        go_wp2_with fail
        refine (law12_speaks _).mono ?_
        rintro e w3 ⟨rfl, hw3⟩
        have A3 := Lib.hid (HA0.out.trans (hw1.trans hw3))
        have B3 := Lib.hid (HB0.out.after (hw1.trans hw3))
        have S3 := Lib.hid (HS1.out.after hw3)
        clear hw1 hw3
        have k0 := B3.out.cell 0
        have k1 := B3.out.cell 1
        have k2 := B3.out.cell 2
        have k3 := B3.out.cell 3
        have k4 := B3.out.cell 4
        simp at k0 k1 k2 k3 k4
        go_wp2_with fail
        refine (ref12_right a b wd ht y _).mono ?_
        rintro e w4 ⟨rfl, hw4⟩
        rw [HR.out]
        have A4 := Lib.hid (A3.out.trans hw4)
        have B4 := Lib.hid (B3.out.after hw4)
        have S4 := Lib.hid (S3.out.after hw4)
        clear hw4 k0 k1 k2 k3 k4
        go_wp2_with fail
        refine (law12_speaks _).mono ?_
        rintro e w5 ⟨rfl, hw5⟩
        go_wp2
        go_ret
        exact ⟨rfl, A4.out.trans hw5⟩
    | true =>
      obtain ⟨ra, rb, rc, rd, re, r0⟩ := rightA_parts hr
      have HR := Lib.hid hr
      clear hr
      go_enter Try.func9, Try.ntmps9
      go_wp2_with fail
      refine (law12_begin (HV.out.after HA0.out) 30 (by decide)).mono ?_
      rintro e w1 (⟨hh, _⟩ | ⟨_, S, L, g, cap, fv, rfl, hs, hw1⟩)
      · rw [HN.out] at hh; cases hh
      · have HS1 := Lib.hid hs
        clear hs
        go_wp2_with fail
        refine (law12_speaks _).mono ?_
        rintro e w3 ⟨rfl, hw3⟩
        have A3 := Lib.hid (HA0.out.trans (hw1.trans hw3))
        have B3 := Lib.hid (HB0.out.after (hw1.trans hw3))
        have S3 := Lib.hid (HS1.out.after hw3)
        clear hw1 hw3
        have k0 := B3.out.cell 0
        have k1 := B3.out.cell 1
        have k2 := B3.out.cell 2
        have k3 := B3.out.cell 3
        have k4 := B3.out.cell 4
        simp at k0 k1 k2 k3 k4
        go_wp2_with fail
        refine (ref12_right a b wd ht y _).mono ?_
        rintro e w4 ⟨rfl, hw4⟩
        rw [HR.out]
        have A4 := Lib.hid (A3.out.trans hw4)
        have B4 := Lib.hid (B3.out.after hw4)
        have S4 := Lib.hid (S3.out.after hw4)
        clear hw4 k0 k1 k2 k3 k4
        obtain ⟨mr1, mr2⟩ := bounds_u8 hmr
        have k0 := B4.out.cell 0
        have k1 := B4.out.cell 1
        have k2 := B4.out.cell 2
        have k3 := B4.out.cell 3
        have k4 := B4.out.cell 4
        simp at k0 k1 k2 k3 k4
        by_cases hY : 140737488355328 < ht
        · go_wp2_with fail
          refine (law12_speaks _).mono ?_
          rintro e w5 ⟨rfl, hw5⟩
          go_wp2
          go_ret
          exact ⟨rfl, A4.out.trans hw5⟩
        · have D0 := rd
          have E0 := re
          unfold L48 at D0 E0
          have rd2 : L48 (ht + mr) := by unfold L48; omega
          have r00 : L48 0 := by unfold L48; omega
          have r01 : L48 1 := by unfold L48; omega
          have hwd : IntKind.i64.wrap mr = mr := by rw [IntKind.wrap_i64]; omega
          have hwy : IntKind.i64.wrap (ht + mr) = ht + mr := by rw [IntKind.wrap_i64]; omega
          obtain ⟨z, hz⟩ : ∃ z, firstOf fs ht (fitsQ a b wd) y = z := ⟨_, rfl⟩
          obtain ⟨x, hx⟩ : ∃ x, max a (bandAt fs z ht).1 = x := ⟨_, rfl⟩
          obtain ⟨z2, hz2⟩ : ∃ z, firstOf fs (ht + mr) (fitsQ a b wd) y = z := ⟨_, rfl⟩
          obtain ⟨x2, hx2⟩ : ∃ x, max a (bandAt fs z2 (ht + mr)).1 = x := ⟨_, rfl⟩
          obtain ⟨z3, hz3⟩ : ∃ z, firstOf fs 0 (fitsQ a b wd) y = z := ⟨_, rfl⟩
          obtain ⟨x3, hx3⟩ : ∃ x, max a (bandAt fs z3 0).1 = x := ⟨_, rfl⟩
          have hz4 : firstOf fs 1 (fitsQ a b wd) y = z3 := hz3
          have hx4 : max a (bandAt fs z3 1).1 = x3 := hx3
          have hle : z ≤ z2 := by rw [← hz, ← hz2]; exact find_tall fs ra rb rc re (by omega)
          have HLE := Lib.hid hle
          have Cf := fun (w' : World) (hw' : After w4 w') => find_c (S4.out.after hw') HALL.out ra rb rc rd re hz hx
          have Cg := fun (w' : World) (hw' : After w4 w') => find_c (S4.out.after hw') HALL.out ra rb rc rd2 re hz2 hx2
          have Ch := fun (w' : World) (hw' : After w4 w') => find_c (S4.out.after hw') HALL.out ra rb rc r00 re hz3 hx3
          have Ci := fun (w' : World) (hw' : After w4 w') => find_c (S4.out.after hw') HALL.out ra rb rc r01 re hz4 hx4
          simp only [Int.add_zero] at Ch
          have CF := Lib.hid Cf
          have CG := Lib.hid Cg
          have CH := Lib.hid Ch
          have CI := Lib.hid Ci
          clear hz hx hz2 hx2 hz3 hx3 hz4 hx4 Cf Cg Ch Ci hle
          go_wp2_with fail
          go_cut [8, 9, 10] from 34 to 36 (fun u v x wx => ∃ p q r, u = .pointer (some ⟨p, 0, none⟩) ∧ v = .pointer (some ⟨q, 0, none⟩) ∧ x = .pointer (some ⟨r, 0, none⟩) ∧ Three w4 wx p q r a b wd ht y)
          case first =>
            have N3 := Lib.hid (three_new w4 55 #[.int .i64 a, .int .i64 b, .int .i64 wd, .int .i64 ht, .int .i64 y])
            have e0 := fun o => (B4.out.alloc o).cell 0
            have e1 := fun o => (B4.out.alloc o).cell 1
            have e2 := fun o => (B4.out.alloc o).cell 2
            have e3 := fun o => (B4.out.alloc o).cell 3
            have e4 := fun o => (B4.out.alloc o).cell 4
            have f0 := fun o o' => ((B4.out.alloc o).alloc o').cell 0
            have f1 := fun o o' => ((B4.out.alloc o).alloc o').cell 1
            have f2 := fun o o' => ((B4.out.alloc o).alloc o').cell 2
            have f3 := fun o o' => ((B4.out.alloc o).alloc o').cell 3
            have f4 := fun o o' => ((B4.out.alloc o).alloc o').cell 4
            have g0 := fun o o' o2 => (((B4.out.alloc o).alloc o').alloc o2).cell 0
            have g1 := fun o o' o2 => (((B4.out.alloc o).alloc o').alloc o2).cell 1
            have g2 := fun o o' o2 => (((B4.out.alloc o).alloc o').alloc o2).cell 2
            have g3 := fun o o' o2 => (((B4.out.alloc o).alloc o').alloc o2).cell 3
            have g4 := fun o o' o2 => (((B4.out.alloc o).alloc o').alloc o2).cell 4
            simp at e0 e1 e2 e3 e4 f0 f1 f2 f3 f4 g0 g1 g2 g3 g4
            go_region
            all_goals
              go_wp2_with fail
              go_meet
              refine ⟨_, _, _, rfl, rfl, rfl, ((((After.refl w4).alloc _).alloc _).alloc _).drew, ⟨?_, by omega⟩, ⟨?_, by omega⟩, ⟨?_, by omega⟩, by omega, by omega, by omega⟩
              all_goals (first | exact N3.out.1.drew | exact N3.out.2.1.drew | exact N3.out.2.2.drew)
          case rest =>
            obtain ⟨p, q, r, rfl, rfl, rfl, A5, ⟨bp, hp⟩, ⟨bq, hq⟩, ⟨br, hr⟩, hpq, hpr, hqr⟩ := hcut
            have B5 := B4.out.after A5
            have c3 := bp.cell 3
            have f3 := bp.frozen 3
            have d3 := bq.cell 3
            have g3 := bq.frozen 3
            have e3 := br.cell 3
            have h3 := br.frozen 3
            simp at c3 d3 e3
            obtain ⟨w5, hw5⟩ : ∃ w5, wc.setCell ⟨p, 3, none⟩ (.int .i64 (ht + mr)) = w5 := ⟨_, rfl⟩
            have bp5 : Blk w5 p 55 #[.int .i64 a, .int .i64 b, .int .i64 wd, .int .i64 (ht + mr), .int .i64 y] := hw5 ▸ bp.set_ 3 _
            have bq5 : Blk w5 q 55 #[.int .i64 a, .int .i64 b, .int .i64 wd, .int .i64 ht, .int .i64 y] := hw5 ▸ bq.far (p := ⟨p, 3, none⟩) (Ne.symm hpq) _
            have br5 : Blk w5 r 55 #[.int .i64 a, .int .i64 b, .int .i64 wd, .int .i64 ht, .int .i64 y] := hw5 ▸ br.far (p := ⟨p, 3, none⟩) (Ne.symm hpr) _
            have A51 : After w4 w5 := hw5 ▸ A5.setCell hp _
            have d35 := bq5.cell 3
            have g35 := bq5.frozen 3
            simp at d35
            obtain ⟨w6, hw6⟩ : ∃ w6, w5.setCell ⟨q, 3, none⟩ (.int .i64 0) = w6 := ⟨_, rfl⟩
            have bp6 : Blk w6 p 55 #[.int .i64 a, .int .i64 b, .int .i64 wd, .int .i64 (ht + mr), .int .i64 y] := hw6 ▸ bp5.far (p := ⟨q, 3, none⟩) hpq _
            have bq6 : Blk w6 q 55 #[.int .i64 a, .int .i64 b, .int .i64 wd, .int .i64 0, .int .i64 y] := hw6 ▸ bq5.set_ 3 _
            have br6 : Blk w6 r 55 #[.int .i64 a, .int .i64 b, .int .i64 wd, .int .i64 ht, .int .i64 y] := hw6 ▸ br5.far (p := ⟨q, 3, none⟩) (Ne.symm hqr) _
            have A61 : After w4 w6 := hw6 ▸ A51.setCell hq _
            have e36 := br6.cell 3
            have h36 := br6.frozen 3
            simp at e36
            obtain ⟨W7, hw7⟩ : ∃ W7, w6.setCell ⟨r, 3, none⟩ (.int .i64 1) = W7 := ⟨_, rfl⟩
            have Bp := Lib.hid (show Blk W7 p 55 #[.int .i64 a, .int .i64 b, .int .i64 wd, .int .i64 (ht + mr), .int .i64 y] from hw7 ▸ bp6.far (p := ⟨r, 3, none⟩) hpr _)
            have Bq := Lib.hid (show Blk W7 q 55 #[.int .i64 a, .int .i64 b, .int .i64 wd, .int .i64 0, .int .i64 y] from hw7 ▸ bq6.far (p := ⟨r, 3, none⟩) hqr _)
            have Br := Lib.hid (show Blk W7 r 55 #[.int .i64 a, .int .i64 b, .int .i64 wd, .int .i64 1, .int .i64 y] from hw7 ▸ br6.set_ 3 _)
            have Aw := Lib.hid (show After w4 W7 from hw7 ▸ A61.setCell hr _)
            have Bm := Lib.hid (B4.out.after Aw.out)
            have CF1 := Lib.hid (fun (w' : World) (hw' : After W7 w') => CF.out w' (Aw.out.trans hw'))
            have CF2 := Lib.hid (fun (w' : World) (hw' : After W7 w') => CG.out w' (Aw.out.trans hw'))
            clear bp bq br bp5 bq5 br5 bp6 bq6 br6 A5 A51 A61 B5 CF CG hpq hpr hqr hp hq hr k0 k1 k2 k3 k4
            go_wp2_with fail
            clear hw5 hw6 hw7 c3 f3 d3 g3 e3 h3 d35 g35 e36 h36
            have k0 := Bm.out.cell 0
            have m0 := Bp.out.cell 0
            have k1 := Bm.out.cell 1
            have m1 := Bp.out.cell 1
            have k2 := Bm.out.cell 2
            have m2 := Bp.out.cell 2
            have k3 := Bm.out.cell 3
            have m3 := Bp.out.cell 3
            have k4 := Bm.out.cell 4
            have m4 := Bp.out.cell 4
            simp at k0 k1 k2 k3 k4 m0 m1 m2 m3 m4
            have q0 := fun n os => cell_grown (w := W7) Bm.out.lt k0 n os
            have r0 := fun n os => cell_grown (w := W7) Bp.out.lt m0 n os
            have q1 := fun n os => cell_grown (w := W7) Bm.out.lt k1 n os
            have r1 := fun n os => cell_grown (w := W7) Bp.out.lt m1 n os
            have q2 := fun n os => cell_grown (w := W7) Bm.out.lt k2 n os
            have r2 := fun n os => cell_grown (w := W7) Bp.out.lt m2 n os
            have q3 := fun n os => cell_grown (w := W7) Bm.out.lt k3 n os
            have r3 := fun n os => cell_grown (w := W7) Bp.out.lt m3 n os
            have q4 := fun n os => cell_grown (w := W7) Bm.out.lt k4 n os
            have r4 := fun n os => cell_grown (w := W7) Bp.out.lt m4 n os
            clear k0 k1 k2 k3 k4 m0 m1 m2 m3 m4
            go_wp2_with fail
            refine wp_region_fresh 10 [(8, .cells #[.int .i64 0, .int .i64 0, .int .i64 0, .int .i64 0] 59), (9, .cells #[.int .i64 0, .int .i64 0, .int .i64 0, .int .i64 0] 59)] hmix (by kernel_rfl) (lays_of (by decide) (by kernel_rfl) (lays_cons rfl rfl (fun _ => rfl) (al_rect _ rfl) (lays_cons rfl rfl (fun _ => rfl) (al_rect _ rfl) (fun x hx => by cases hx)))) ?_
            simp only [List.take_succ_cons, List.take_zero, List.drop_succ_cons, List.drop_zero]
            iterate 4 (first
              | refine wpFresh_al rfl ?_
              | (refine wpFresh_step rfl (fun KK hKK => ?_)
                 go_simp
                 first
                   | (refine hKK _ ?_; clear hKK KK)
                   | (apply Exists.intro
                      refine ⟨fun p => ?_, hKK _ ?_⟩
                      (first
                        | (go_at_call 42; exact law12_of _ _ _ _ _ _)
                        | (go_at_call 41; exact CF1.out _ (gw_after _ p)))
                      clear hKK KK)))
            repeat (first
              | refine wpFresh_al rfl ?_
              | (refine wpFresh_step rfl (fun KK hKK => ?_)
                 go_simp
                 first
                   | (refine hKK _ ?_; clear hKK KK)
                   | (apply Exists.intro
                      refine ⟨fun p => ?_, hKK _ ?_⟩
                      (first
                        | (go_at_call 42; exact law12_of _ _ _ _ _ _)
                        | (go_at_call 41; exact CF2.out _ (gw_after _ p)))
                      clear hKK KK)))
            refine wpFresh_nil ?_
            intro P Q wx hL
            obtain ⟨AX, ⟨bP0, hPl⟩, ⟨bQ0, hQl⟩, hPQ⟩ := hL.two (by decide)
            have bP : Blk wx P 59 #[.int .i64 0, .int .i64 0, .int .i64 0, .int .i64 0] := bP0
            have bQ : Blk wx Q 59 #[.int .i64 0, .int .i64 0, .int .i64 0, .int .i64 0] := bQ0
            clear hL bP0 bQ0 q0 q1 q2 q3 q4 r0 r1 r2 r3 r4
            obtain ⟨wm, hwm⟩ : ∃ wm, (((wx.setCell ⟨P, 0, none⟩ (.int .i64 x)).setCell ⟨P, 1, none⟩ (.int .i64 z)).setCell ⟨P, 2, none⟩ (.int .i64 (x + wd))).setCell ⟨P, 3, none⟩ (.int .i64 (z + ht)) = wm := ⟨_, rfl⟩
            have bP2 : Blk wm P 59 #[.int .i64 x, .int .i64 z, .int .i64 (x + wd), .int .i64 (z + ht)] := hwm ▸ ((((bP.set_ 0 _).set_ 1 _).set_ 2 _).set_ 3 _)
            have bQ2 : Blk wm Q 59 #[.int .i64 0, .int .i64 0, .int .i64 0, .int .i64 0] := hwm ▸ ((((bQ.far (p := ⟨P, 0, none⟩) (Ne.symm hPQ) _).far (p := ⟨P, 1, none⟩) (Ne.symm hPQ) _).far (p := ⟨P, 2, none⟩) (Ne.symm hPQ) _).far (p := ⟨P, 3, none⟩) (Ne.symm hPQ) _)
            have AM : After W7 wm := hwm ▸ ((((AX.setCell hPl _).setCell hPl _).setCell hPl _).setCell hPl _)
            obtain ⟨wy, hwy⟩ : ∃ wy, (((wm.setCell ⟨Q, 0, none⟩ (.int .i64 x2)).setCell ⟨Q, 1, none⟩ (.int .i64 z2)).setCell ⟨Q, 2, none⟩ (.int .i64 (x2 + wd))).setCell ⟨Q, 3, none⟩ (.int .i64 (z2 + (ht + mr))) = wy := ⟨_, rfl⟩
            have HP := Lib.hid (show Blk wy P 59 #[.int .i64 x, .int .i64 z, .int .i64 (x + wd), .int .i64 (z + ht)] from hwy ▸ ((((bP2.far (p := ⟨Q, 0, none⟩) hPQ _).far (p := ⟨Q, 1, none⟩) hPQ _).far (p := ⟨Q, 2, none⟩) hPQ _).far (p := ⟨Q, 3, none⟩) hPQ _))
            have HQ := Lib.hid (show Blk wy Q 59 #[.int .i64 x2, .int .i64 z2, .int .i64 (x2 + wd), .int .i64 (z2 + (ht + mr))] from hwy ▸ ((((bQ2.set_ 0 _).set_ 1 _).set_ 2 _).set_ 3 _))
            have A8 := Lib.hid (show After W7 wy from hwy ▸ ((((AM.setCell hQl _).setCell hQl _).setCell hQl _).setCell hQl _))
            have k0 := bP.cell 0
            have f0 := bP.frozen 0
            have m0 := bQ2.cell 0
            have g0 := bQ2.frozen 0
            have k1 := bP.cell 1
            have f1 := bP.frozen 1
            have m1 := bQ2.cell 1
            have g1 := bQ2.frozen 1
            have k2 := bP.cell 2
            have f2 := bP.frozen 2
            have m2 := bQ2.cell 2
            have g2 := bQ2.frozen 2
            have k3 := bP.cell 3
            have f3 := bP.frozen 3
            have m3 := bQ2.cell 3
            have g3 := bQ2.frozen 3
            simp at k0 k1 k2 k3 m0 m1 m2 m3
            clear bP bQ bP2 bQ2 AX AM hPQ
            have Bq8 := Lib.hid (Bq.out.after A8.out)
            have Br8 := Lib.hid (Br.out.after A8.out)
            have CF3 := Lib.hid (fun (w' : World) (hw' : After wy w') => CH.out w' ((Aw.out.trans A8.out).trans hw'))
            have CF4 := Lib.hid (fun (w' : World) (hw' : After wy w') => CI.out w' ((Aw.out.trans A8.out).trans hw'))
            clear CF1 CF2 CH CI Bp Bq Br Bm
            go_wp2_with fail
            clear hwm hwy k0 k1 k2 k3 m0 m1 m2 m3 f0 f1 f2 f3 g0 g1 g2 g3 hPl hQl
            have k0 := Bq8.out.cell 0
            have m0 := Br8.out.cell 0
            have k1 := Bq8.out.cell 1
            have m1 := Br8.out.cell 1
            have k2 := Bq8.out.cell 2
            have m2 := Br8.out.cell 2
            have k3 := Bq8.out.cell 3
            have m3 := Br8.out.cell 3
            have k4 := Bq8.out.cell 4
            have m4 := Br8.out.cell 4
            simp at k0 k1 k2 k3 k4 m0 m1 m2 m3 m4
            have q0 := fun n os => cell_grown (w := wy) Bq8.out.lt k0 n os
            have r0 := fun n os => cell_grown (w := wy) Br8.out.lt m0 n os
            have q1 := fun n os => cell_grown (w := wy) Bq8.out.lt k1 n os
            have r1 := fun n os => cell_grown (w := wy) Br8.out.lt m1 n os
            have q2 := fun n os => cell_grown (w := wy) Bq8.out.lt k2 n os
            have r2 := fun n os => cell_grown (w := wy) Br8.out.lt m2 n os
            have q3 := fun n os => cell_grown (w := wy) Bq8.out.lt k3 n os
            have r3 := fun n os => cell_grown (w := wy) Br8.out.lt m3 n os
            have q4 := fun n os => cell_grown (w := wy) Bq8.out.lt k4 n os
            have r4 := fun n os => cell_grown (w := wy) Br8.out.lt m4 n os
            clear k0 k1 k2 k3 k4 m0 m1 m2 m3 m4
            go_wp2_with fail
            refine wp_region_fresh 10 [(8, .cells #[.int .i64 0, .int .i64 0, .int .i64 0, .int .i64 0] 59), (9, .cells #[.int .i64 0, .int .i64 0, .int .i64 0, .int .i64 0] 59)] hmix (by kernel_rfl) (lays_of (by decide) (by kernel_rfl) (lays_cons rfl rfl (fun _ => rfl) (al_rect _ rfl) (lays_cons rfl rfl (fun _ => rfl) (al_rect _ rfl) (fun x hx => by cases hx)))) ?_
            simp only [List.take_succ_cons, List.take_zero, List.drop_succ_cons, List.drop_zero]
            iterate 4 (first
              | refine wpFresh_al rfl ?_
              | (refine wpFresh_step rfl (fun KK hKK => ?_)
                 go_simp
                 first
                   | (refine hKK _ ?_; clear hKK KK)
                   | (apply Exists.intro
                      refine ⟨fun p => ?_, hKK _ ?_⟩
                      (first
                        | (go_at_call 42; exact law12_of _ _ _ _ _ _)
                        | (go_at_call 41; exact CF3.out _ (gw_after _ p)))
                      clear hKK KK)))
            repeat (first
              | refine wpFresh_al rfl ?_
              | (refine wpFresh_step rfl (fun KK hKK => ?_)
                 go_simp
                 first
                   | (refine hKK _ ?_; clear hKK KK)
                   | (apply Exists.intro
                      refine ⟨fun p => ?_, hKK _ ?_⟩
                      (first
                        | (go_at_call 42; exact law12_of _ _ _ _ _ _)
                        | (go_at_call 41; exact CF4.out _ (gw_after _ p)))
                      clear hKK KK)))
            refine wpFresh_nil ?_
            intro P2 Q2 wx2 hL
            obtain ⟨AX, ⟨bP0, hPl⟩, ⟨bQ0, hQl⟩, hPQ⟩ := hL.two (by decide)
            have bP : Blk wx2 P2 59 #[.int .i64 0, .int .i64 0, .int .i64 0, .int .i64 0] := bP0
            have bQ : Blk wx2 Q2 59 #[.int .i64 0, .int .i64 0, .int .i64 0, .int .i64 0] := bQ0
            clear hL bP0 bQ0 q0 q1 q2 q3 q4 r0 r1 r2 r3 r4
            obtain ⟨wm2, hwm2⟩ : ∃ wm2, (((wx2.setCell ⟨P2, 0, none⟩ (.int .i64 x3)).setCell ⟨P2, 1, none⟩ (.int .i64 z3)).setCell ⟨P2, 2, none⟩ (.int .i64 (x3 + wd))).setCell ⟨P2, 3, none⟩ (.int .i64 z3) = wm2 := ⟨_, rfl⟩
            have bP2 : Blk wm2 P2 59 #[.int .i64 x3, .int .i64 z3, .int .i64 (x3 + wd), .int .i64 z3] := hwm2 ▸ ((((bP.set_ 0 _).set_ 1 _).set_ 2 _).set_ 3 _)
            have bQ2 : Blk wm2 Q2 59 #[.int .i64 0, .int .i64 0, .int .i64 0, .int .i64 0] := hwm2 ▸ ((((bQ.far (p := ⟨P2, 0, none⟩) (Ne.symm hPQ) _).far (p := ⟨P2, 1, none⟩) (Ne.symm hPQ) _).far (p := ⟨P2, 2, none⟩) (Ne.symm hPQ) _).far (p := ⟨P2, 3, none⟩) (Ne.symm hPQ) _)
            have AM : After wy wm2 := hwm2 ▸ ((((AX.setCell hPl _).setCell hPl _).setCell hPl _).setCell hPl _)
            obtain ⟨wy2, hwy2⟩ : ∃ wy2, (((wm2.setCell ⟨Q2, 0, none⟩ (.int .i64 x3)).setCell ⟨Q2, 1, none⟩ (.int .i64 z3)).setCell ⟨Q2, 2, none⟩ (.int .i64 (x3 + wd))).setCell ⟨Q2, 3, none⟩ (.int .i64 (z3 + 1)) = wy2 := ⟨_, rfl⟩
            have HP2 := Lib.hid (show Blk wy2 P2 59 #[.int .i64 x3, .int .i64 z3, .int .i64 (x3 + wd), .int .i64 z3] from hwy2 ▸ ((((bP2.far (p := ⟨Q2, 0, none⟩) hPQ _).far (p := ⟨Q2, 1, none⟩) hPQ _).far (p := ⟨Q2, 2, none⟩) hPQ _).far (p := ⟨Q2, 3, none⟩) hPQ _))
            have HQ2 := Lib.hid (show Blk wy2 Q2 59 #[.int .i64 x3, .int .i64 z3, .int .i64 (x3 + wd), .int .i64 (z3 + 1)] from hwy2 ▸ ((((bQ2.set_ 0 _).set_ 1 _).set_ 2 _).set_ 3 _))
            have A9 := Lib.hid (show After wy wy2 from hwy2 ▸ ((((AM.setCell hQl _).setCell hQl _).setCell hQl _).setCell hQl _))
            have k0 := bP.cell 0
            have f0 := bP.frozen 0
            have m0 := bQ2.cell 0
            have g0 := bQ2.frozen 0
            have k1 := bP.cell 1
            have f1 := bP.frozen 1
            have m1 := bQ2.cell 1
            have g1 := bQ2.frozen 1
            have k2 := bP.cell 2
            have f2 := bP.frozen 2
            have m2 := bQ2.cell 2
            have g2 := bQ2.frozen 2
            have k3 := bP.cell 3
            have f3 := bP.frozen 3
            have m3 := bQ2.cell 3
            have g3 := bQ2.frozen 3
            simp at k0 k1 k2 k3 m0 m1 m2 m3
            clear bP bQ bP2 bQ2 AX AM hPQ
            have n0 := HP2.out.cell 0
            have n1 := HP2.out.cell 1
            have n2 := HQ2.out.cell 0
            have n3 := HQ2.out.cell 1
            have n4 := (HP.out.after A9.out).cell 1
            have n5 := (HQ.out.after A9.out).cell 1
            simp at n0 n1 n2 n3 n4 n5
            have A09 := Lib.hid (A4.out.trans ((Aw.out.trans A8.out).trans A9.out))
            have hle := HLE.out
            have hle' : decide (z ≤ z2) = true := decide_eq_true hle
            go_wp2_with fail
            go_ret
            exact ⟨ret_bool (by simp), A09.out⟩
end Go.Proofs.Ytefbeekjoafijaa
