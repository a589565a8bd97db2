/- Walk of PlaceNarrow. -/
import Derived.Test.YtefbeekjoafijaaGuard11
import Derived.OpenShut
import Derived.Deep.CutRange
import Derived.BigRegion
namespace Go.Proofs.Ytefbeekjoafijaa
open Go.RowKit Go.Sort
set_option linter.unusedVariables false
set_option linter.unusedSimpArgs false
attribute [local irreducible] wpQuiet

/-- a narrower float never stands lower -/
theorem findP_thin (fs : List Flt) {side a b wd wd' ht s : Int} (hs : side = 1 ∨ side = 2) (ha : L48 a) (hb : L48 b) (hw : L48 wd) (hw' : L48 wd') (hab : a ≤ b) (h0 : 0 ≤ wd') (hy : -Far ≤ s) (h : wd' ≤ wd) : firstOf fs ht (fitsP side a b wd') s ≤ firstOf fs ht (fitsP side a b wd) s := by
  refine firstOf_le (fitsP_fair fs ht hs ha hb hw') (fitsP_fair fs ht hs ha hb hw) hy (Int.le_refl _) (fun z hz hq => ?_)
  rcases hs with rfl | rfl
  · rw [fitsP_iff1] at hq ⊢
    omega
  · rw [fitsP_iff2] at hq ⊢
    omega

theorem startP_mono (fs : List Flt) (clear : Int) {y y' : Int} (h : y ≤ y') : startP fs clear y ≤ startP fs clear y' := by
  have hc : clearOf clear y fs ≤ clearOf clear y' fs := by
    unfold clearOf
    cases bottomOf clear fs with
    | none => exact h
    | some b => show max y b ≤ max y' b; omega
  unfold startP
  cases lastOf fs with
  | none => exact hc
  | some t => show max (clearOf clear y fs) t ≤ max (clearOf clear y' fs) t; omega

/-- what may stand lower only never stands higher -/
theorem findP_low (fs : List Flt) {side clear a b wd ht y y' : Int} (hs : side = 1 ∨ side = 2) (ha : L48 a) (hb : L48 b) (hw : L48 wd) (hy : -Far ≤ startP fs clear y) (h : y ≤ y') : firstOf fs ht (fitsP side a b wd) (startP fs clear y) ≤ firstOf fs ht (fitsP side a b wd) (startP fs clear y') :=
  firstOf_le (fitsP_fair fs ht hs ha hb hw) (fitsP_fair fs ht hs ha hb hw) hy (startP_mono fs clear h) (fun _ _ hq => hq)

def Two (w wx : World) (p q : Nat) (side clear a b wd ht y : Int) : Prop :=
  After w wx ∧ (Blk wx p 92 #[.int .i64 side, .int .i64 clear, .int .i64 a, .int .i64 b, .int .i64 wd, .int .i64 ht, .int .i64 y] ∧ w.heap.size ≤ p) ∧ (Blk wx q 92 #[.int .i64 side, .int .i64 clear, .int .i64 a, .int .i64 b, .int .i64 wd, .int .i64 ht, .int .i64 y] ∧ w.heap.size ≤ q) ∧ p ≠ q

theorem two_new (w : World) (t : TypeId) (c : Array Value) : Blk ((w.alloc (.cells c t)).alloc (.cells c t)) w.heap.size t c ∧ Blk ((w.alloc (.cells c t)).alloc (.cells c t)) (w.heap.size + 1) t c := by
  refine ⟨(Blk.new w t c).alloc _, ?_⟩
  have := Blk.new (w.alloc (.cells c t)) t c
  rwa [World.size_alloc] at this

set_option maxRecDepth 100000 in
set_option maxHeartbeats 8000000 in
theorem placeNarrow {w : World} {v : Value} {fs : List Flt} (h : FlsAt w v fs) (side clear a b wd ht y : Int) (ls : Int) (hls : (Lit.int .u8 ls).wf = true) (dn : Int) (hdn : (Lit.int .u8 dn).wf = true) : Calls Try.prog 17 #[v, .agg #[.int .i64 side, .int .i64 clear, .int .i64 a, .int .i64 b, .int .i64 wd, .int .i64 ht, .int .i64 y], .int .u8 ls, .int .u8 dn] w (Ret (.bool true) w) := by
  have hmix := mixed
  have HB0 := Lib.hid (Blk.new w 92 #[.int .i64 side, .int .i64 clear, .int .i64 a, .int .i64 b, .int .i64 wd, .int .i64 ht, .int .i64 y])
  have HA0 := Lib.hid ((After.refl w).alloc (.cells #[.int .i64 side, .int .i64 clear, .int .i64 a, .int .i64 b, .int .i64 wd, .int .i64 ht, .int .i64 y] 92))
  have HV := Lib.hid h
  clear h
  cases hn : nearB fs 30 with
  | false =>
    have HN := Lib.hid hn
    clear hn
    go_enter Try.func17, Try.ntmps17
    go_wp2_with fail
    refine (law11_begin (HV.out.after HA0.out) 30 (by decide)).mono ?_
    rintro e w1 (⟨_, rfl, hw1⟩ | ⟨hh, _⟩)
    · go_wp2_with fail
      refine (law11_speaks _).mono ?_
      rintro e w3 ⟨rfl, hw3⟩
      go_wp2_with fail
      refine (law11_speaks _).mono ?_
      rintro e w4 ⟨rfl, hw4⟩
      go_wp2
      go_ret
      exact ⟨rfl, HA0.out.trans (hw1.trans (hw3.trans hw4))⟩
    · rw [HN.out] at hh; cases hh
  | true =>
    have hall : fs.all smallF = true := by unfold nearB at hn; simp only [Bool.and_eq_true] at hn; exact (all_small hn.1).1
    have hlen : fs.length ≤ 30 := by unfold nearB at hn; simp only [Bool.and_eq_true, decide_eq_true_eq] at hn; have := hn.2; omega
    have HALL := Lib.hid hall
    have HN := Lib.hid hn
    clear hn hall
    cases hr : rightP side clear a b wd ht y with
    | false =>
      have HR := Lib.hid hr
      clear hr
      go_enter Try.func17, Try.ntmps17
      go_wp2_with fail
      refine (law11_begin (HV.out.after HA0.out) 30 (by decide)).mono ?_
      rintro e w1 (⟨hh, _⟩ | ⟨_, S, L, g, cap, fv, rfl, hs, hw1⟩)
      · rw [HN.out] at hh; cases hh
      · have HS1 := Lib.hid hs
        clear hs
        go_wp2_with fail
        refine (law11_speaks _).mono ?_
        rintro e w3 ⟨rfl, hw3⟩
        have A3 := Lib.hid (HA0.out.trans (hw1.trans hw3))
        have B3 := Lib.hid (HB0.out.after (hw1.trans hw3))
        have S3 := Lib.hid (HS1.out.after hw3)
        clear hw1 hw3
        have k0 := B3.out.cell 0
        have k1 := B3.out.cell 1
        have k2 := B3.out.cell 2
        have k3 := B3.out.cell 3
        have k4 := B3.out.cell 4
        have k5 := B3.out.cell 5
        have k6 := B3.out.cell 6
        simp at k0 k1 k2 k3 k4 k5 k6
        go_wp2_with fail
        refine (ref11_right side clear a b wd ht y _).mono ?_
        rintro e w4 ⟨rfl, hw4⟩
        rw [HR.out]
        have A4 := Lib.hid (A3.out.trans hw4)
        have B4 := Lib.hid (B3.out.after hw4)
        have S4 := Lib.hid (S3.out.after hw4)
        clear hw4 k0 k1 k2 k3 k4 k5 k6
        go_wp2_with fail
        refine (law11_speaks _).mono ?_
        rintro e w5 ⟨rfl, hw5⟩
        go_wp2
        go_ret
        exact ⟨rfl, A4.out.trans hw5⟩
    | true =>
      obtain ⟨rs, ra, rb, rc, rd, re, rk0, rk3, rab⟩ := rightP_parts hr
      have HR := Lib.hid hr
      clear hr
      go_enter Try.func17, Try.ntmps17
      go_wp2_with fail
      refine (law11_begin (HV.out.after HA0.out) 30 (by decide)).mono ?_
      rintro e w1 (⟨hh, _⟩ | ⟨_, S, L, g, cap, fv, rfl, hs, hw1⟩)
      · rw [HN.out] at hh; cases hh
      · have HS1 := Lib.hid hs
        clear hs
        go_wp2_with fail
        refine (law11_speaks _).mono ?_
        rintro e w3 ⟨rfl, hw3⟩
        have A3 := Lib.hid (HA0.out.trans (hw1.trans hw3))
        have B3 := Lib.hid (HB0.out.after (hw1.trans hw3))
        have S3 := Lib.hid (HS1.out.after hw3)
        clear hw1 hw3
        have k0 := B3.out.cell 0
        have k1 := B3.out.cell 1
        have k2 := B3.out.cell 2
        have k3 := B3.out.cell 3
        have k4 := B3.out.cell 4
        have k5 := B3.out.cell 5
        have k6 := B3.out.cell 6
        simp at k0 k1 k2 k3 k4 k5 k6
        go_wp2_with fail
        refine (ref11_right side clear a b wd ht y _).mono ?_
        rintro e w4 ⟨rfl, hw4⟩
        rw [HR.out]
        have A4 := Lib.hid (A3.out.trans hw4)
        have B4 := Lib.hid (B3.out.after hw4)
        have S4 := Lib.hid (S3.out.after hw4)
        clear hw4 k0 k1 k2 k3 k4 k5 k6
        obtain ⟨ls1, ls2⟩ := bounds_u8 hls
        obtain ⟨dn1, dn2⟩ := bounds_u8 hdn
        have k0 := B4.out.cell 0
        have k1 := B4.out.cell 1
        have k2 := B4.out.cell 2
        have k3 := B4.out.cell 3
        have k4 := B4.out.cell 4
        have k5 := B4.out.cell 5
        have k6 := B4.out.cell 6
        simp at k0 k1 k2 k3 k4 k5 k6
        by_cases hY : 140737488355328 < y
        · go_wp2_with fail
          refine (law11_speaks _).mono ?_
          rintro e w5 ⟨rfl, hw5⟩
          go_wp2
          go_ret
          exact ⟨rfl, A4.out.trans hw5⟩
        · by_cases hW0 : wd < 0
          · go_wp2_with fail
            refine (law11_speaks _).mono ?_
            rintro e w5 ⟨rfl, hw5⟩
            go_wp2
            go_ret
            exact ⟨rfl, A4.out.trans hw5⟩
          · have C0 := rc
            have E0 := re
            unfold L48 at C0 E0
            obtain ⟨wn, hwn⟩ : ∃ wn, max 0 (wd - ls) = wn := ⟨_, rfl⟩
            have rc2 : L48 wn := by unfold L48; omega
            have re2 : L48 (y + dn) := by unfold L48; omega
            have hle0 : wn ≤ wd := by omega
            have hwl : IntKind.i64.wrap ls = ls := by rw [IntKind.wrap_i64]; omega
            have hwd : IntKind.i64.wrap dn = dn := by rw [IntKind.wrap_i64]; omega
            have hwb : IntKind.i64.wrap (wd - ls) = wd - ls := by rw [IntKind.wrap_i64]; omega
            have hwy : IntKind.i64.wrap (y + dn) = y + dn := by rw [IntKind.wrap_i64]; omega
            have hsr := startP_range HALL.out clear re
            have hsf : -Far ≤ startP fs clear y := by unfold Far; omega
            obtain ⟨z, hz⟩ : ∃ z, firstOf fs ht (fitsP side a b wd) (startP fs clear y) = z := ⟨_, rfl⟩
            obtain ⟨x, hx⟩ : ∃ x, leftP side a b wd (bandAt fs z ht) = x := ⟨_, rfl⟩
            obtain ⟨z2, hz2⟩ : ∃ z, firstOf fs ht (fitsP side a b wn) (startP fs clear y) = z := ⟨_, rfl⟩
            obtain ⟨x2, hx2⟩ : ∃ x, leftP side a b wn (bandAt fs z2 ht) = x := ⟨_, rfl⟩
            obtain ⟨z3, hz3⟩ : ∃ z, firstOf fs ht (fitsP side a b wd) (startP fs clear (y + dn)) = z := ⟨_, rfl⟩
            obtain ⟨x3, hx3⟩ : ∃ x, leftP side a b wd (bandAt fs z3 ht) = x := ⟨_, rfl⟩
            have hle2 : z2 ≤ z := by rw [← hz, ← hz2]; exact findP_thin fs rs ra rb rc rc2 rab (by omega) hsf hle0
            have hle3 : z ≤ z3 := by rw [← hz, ← hz3]; exact findP_low fs rs ra rb rc hsf (by omega)
            have HLE := Lib.hid (show z2 ≤ z ∧ z ≤ z3 from ⟨hle2, hle3⟩)
            have CF := Lib.hid (fun (w' : World) (hw' : After w4 w') => place_find (clear := clear) (S4.out.after hw') HALL.out rs ra rb rc rd re hz hx)
            have CG := Lib.hid (fun (w' : World) (hw' : After w4 w') => place_find (clear := clear) (S4.out.after hw') HALL.out rs ra rb rc2 rd re hz2 hx2)
            have CH := Lib.hid (fun (w' : World) (hw' : After w4 w') => place_find (clear := clear) (S4.out.after hw') HALL.out rs ra rb rc rd re2 hz3 hx3)
            clear hz hx hz2 hx2 hz3 hx3 hle2 hle3 hsf hsr
            go_wp2_with fail
            go_cut [10, 11] from 39 to 40 (fun u v wx => ∃ p q, u = .pointer (some ⟨p, 0, none⟩) ∧ v = .pointer (some ⟨q, 0, none⟩) ∧ Two w4 wx p q side clear a b wd ht y)
            case first =>
              have N3 := Lib.hid (two_new w4 92 #[.int .i64 side, .int .i64 clear, .int .i64 a, .int .i64 b, .int .i64 wd, .int .i64 ht, .int .i64 y])
              have e0 := fun o => (B4.out.alloc o).cell 0
              have f0 := fun o o2 => ((B4.out.alloc o).alloc o2).cell 0
              have e1 := fun o => (B4.out.alloc o).cell 1
              have f1 := fun o o2 => ((B4.out.alloc o).alloc o2).cell 1
              have e2 := fun o => (B4.out.alloc o).cell 2
              have f2 := fun o o2 => ((B4.out.alloc o).alloc o2).cell 2
              have e3 := fun o => (B4.out.alloc o).cell 3
              have f3 := fun o o2 => ((B4.out.alloc o).alloc o2).cell 3
              have e4 := fun o => (B4.out.alloc o).cell 4
              have f4 := fun o o2 => ((B4.out.alloc o).alloc o2).cell 4
              have e5 := fun o => (B4.out.alloc o).cell 5
              have f5 := fun o o2 => ((B4.out.alloc o).alloc o2).cell 5
              have e6 := fun o => (B4.out.alloc o).cell 6
              have f6 := fun o o2 => ((B4.out.alloc o).alloc o2).cell 6
              simp at e0 f0 e1 f1 e2 f2 e3 f3 e4 f4 e5 f5 e6 f6
              go_region
              all_goals
                go_wp2_with fail
                go_meet
                refine ⟨_, _, rfl, rfl, (((After.refl w4).alloc _).alloc _).drew, ⟨?_, by omega⟩, ⟨?_, by omega⟩, by omega⟩
                all_goals (first | exact N3.out.1.drew | exact N3.out.2.drew)
            case rest =>
              obtain ⟨p, q, rfl, rfl, A5, ⟨bp, hp⟩, ⟨bq, hq⟩, hpq⟩ := hcut
              have B5 := B4.out.after A5
              have c4 := B5.cell 4
              have d4 := bp.cell 4
              have e4 := bp.frozen 4
              simp at c4 d4
              obtain ⟨w5, hw5⟩ : ∃ w5, wc.setCell ⟨p, 4, none⟩ (.int .i64 wn) = w5 := ⟨_, rfl⟩
              have bp5 : Blk w5 p 92 #[.int .i64 side, .int .i64 clear, .int .i64 a, .int .i64 b, .int .i64 wn, .int .i64 ht, .int .i64 y] := hw5 ▸ bp.set_ 4 _
              have bq5 : Blk w5 q 92 #[.int .i64 side, .int .i64 clear, .int .i64 a, .int .i64 b, .int .i64 wd, .int .i64 ht, .int .i64 y] := hw5 ▸ bq.far (p := ⟨p, 4, none⟩) (Ne.symm hpq) _
              have A51 : After w4 w5 := hw5 ▸ A5.setCell hp _
              have d6 := bq5.cell 6
              have e6 := bq5.frozen 6
              simp at d6
              obtain ⟨W7, hw7⟩ : ∃ W7, w5.setCell ⟨q, 6, none⟩ (.int .i64 (y + dn)) = W7 := ⟨_, rfl⟩
              have Bp := Lib.hid (show Blk W7 p 92 #[.int .i64 side, .int .i64 clear, .int .i64 a, .int .i64 b, .int .i64 wn, .int .i64 ht, .int .i64 y] from hw7 ▸ bp5.far (p := ⟨q, 6, none⟩) hpq _)
              have Bq := Lib.hid (show Blk W7 q 92 #[.int .i64 side, .int .i64 clear, .int .i64 a, .int .i64 b, .int .i64 wd, .int .i64 ht, .int .i64 (y + dn)] from hw7 ▸ bq5.set_ 6 _)
              have Aw := Lib.hid (show After w4 W7 from hw7 ▸ A51.setCell hq _)
              have Bm := Lib.hid (B4.out.after Aw.out)
              have CF1 := Lib.hid (fun (w' : World) (hw' : After W7 w') => CF.out w' (Aw.out.trans hw'))
              have CF2 := Lib.hid (fun (w' : World) (hw' : After W7 w') => CG.out w' (Aw.out.trans hw'))
              have CF3 := Lib.hid (fun (w' : World) (hw' : After W7 w') => CH.out w' (Aw.out.trans hw'))
              clear bp bq bp5 bq5 A5 A51 B5 CF CG CH hpq hp hq k0 k1 k2 k3 k4 k5 k6
              by_cases h0 : 0 < wd - ls
              · have hw5' : wc.setCell ⟨p, 4, none⟩ (.int .i64 (wd - ls)) = w5 := by rw [← hw5, show wn = wd - ls by omega]
                go_wp2_with fail
                clear hw5 hw5' hw7 c4 d4 e4 d6 e6
                have k0 := Bm.out.cell 0
                have k1 := Bm.out.cell 1
                have k2 := Bm.out.cell 2
                have k3 := Bm.out.cell 3
                have k4 := Bm.out.cell 4
                have k5 := Bm.out.cell 5
                have k6 := Bm.out.cell 6
                have l0 := Bp.out.cell 0
                have l1 := Bp.out.cell 1
                have l2 := Bp.out.cell 2
                have l3 := Bp.out.cell 3
                have l4 := Bp.out.cell 4
                have l5 := Bp.out.cell 5
                have l6 := Bp.out.cell 6
                have m0 := Bq.out.cell 0
                have m1 := Bq.out.cell 1
                have m2 := Bq.out.cell 2
                have m3 := Bq.out.cell 3
                have m4 := Bq.out.cell 4
                have m5 := Bq.out.cell 5
                have m6 := Bq.out.cell 6
                simp at k0 k1 k2 k3 k4 k5 k6 l0 l1 l2 l3 l4 l5 l6 m0 m1 m2 m3 m4 m5 m6
                have qk0 := fun n os => cell_grown (w := W7) Bm.out.lt k0 n os
                have qk1 := fun n os => cell_grown (w := W7) Bm.out.lt k1 n os
                have qk2 := fun n os => cell_grown (w := W7) Bm.out.lt k2 n os
                have qk3 := fun n os => cell_grown (w := W7) Bm.out.lt k3 n os
                have qk4 := fun n os => cell_grown (w := W7) Bm.out.lt k4 n os
                have qk5 := fun n os => cell_grown (w := W7) Bm.out.lt k5 n os
                have qk6 := fun n os => cell_grown (w := W7) Bm.out.lt k6 n os
                have ql0 := fun n os => cell_grown (w := W7) Bp.out.lt l0 n os
                have ql1 := fun n os => cell_grown (w := W7) Bp.out.lt l1 n os
                have ql2 := fun n os => cell_grown (w := W7) Bp.out.lt l2 n os
                have ql3 := fun n os => cell_grown (w := W7) Bp.out.lt l3 n os
                have ql4 := fun n os => cell_grown (w := W7) Bp.out.lt l4 n os
                have ql5 := fun n os => cell_grown (w := W7) Bp.out.lt l5 n os
                have ql6 := fun n os => cell_grown (w := W7) Bp.out.lt l6 n os
                have qm0 := fun n os => cell_grown (w := W7) Bq.out.lt m0 n os
                have qm1 := fun n os => cell_grown (w := W7) Bq.out.lt m1 n os
                have qm2 := fun n os => cell_grown (w := W7) Bq.out.lt m2 n os
                have qm3 := fun n os => cell_grown (w := W7) Bq.out.lt m3 n os
                have qm4 := fun n os => cell_grown (w := W7) Bq.out.lt m4 n os
                have qm5 := fun n os => cell_grown (w := W7) Bq.out.lt m5 n os
                have qm6 := fun n os => cell_grown (w := W7) Bq.out.lt m6 n os
                clear k0 k1 k2 k3 k4 k5 k6 l0 l1 l2 l3 l4 l5 l6 m0 m1 m2 m3 m4 m5 m6
                go_wp2_with fail
                refine wp_region_fresh 15 [(12, .cells #[.int .i64 0, .int .i64 0, .int .i64 0, .int .i64 0] 59), (13, .cells #[.int .i64 0, .int .i64 0, .int .i64 0, .int .i64 0] 59), (14, .cells #[.int .i64 0, .int .i64 0, .int .i64 0, .int .i64 0] 59)] hmix (by kernel_rfl) (lays_of (by decide) (by kernel_rfl) (lays_cons rfl rfl (fun _ => rfl) (al_rect _ rfl) (lays_cons rfl rfl (fun _ => rfl) (al_rect _ rfl) (lays_cons rfl rfl (fun _ => rfl) (al_rect _ rfl) (fun x hx => by cases hx))))) ?_
                simp only [List.take_succ_cons, List.take_zero, List.drop_succ_cons, List.drop_zero]
                iterate 4 (first
                  | refine wpFresh_al rfl ?_
                  | (refine wpFresh_step rfl (fun KK hKK => ?_)
                     go_simp
                     first
                       | (refine hKK _ ?_; clear hKK KK)
                       | (apply Exists.intro
                          refine ⟨fun p => ?_, hKK _ ?_⟩
                          (first
                            | (go_at_call 61; exact law11_of _ _ _ _ _ _ _ _)
                            | (go_at_call 60; exact CF1.out _ (gw_after _ p)))
                          clear hKK KK)))
                iterate 4 (first
                  | refine wpFresh_al rfl ?_
                  | (refine wpFresh_step rfl (fun KK hKK => ?_)
                     go_simp
                     first
                       | (refine hKK _ ?_; clear hKK KK)
                       | (apply Exists.intro
                          refine ⟨fun p => ?_, hKK _ ?_⟩
                          (first
                            | (go_at_call 61; exact law11_of _ _ _ _ _ _ _ _)
                            | (go_at_call 60; exact CF2.out _ (gw_after _ p)))
                          clear hKK KK)))
                iterate 4 (first
                  | refine wpFresh_al rfl ?_
                  | (refine wpFresh_step rfl (fun KK hKK => ?_)
                     go_simp
                     first
                       | (refine hKK _ ?_; clear hKK KK)
                       | (apply Exists.intro
                          refine ⟨fun p => ?_, hKK _ ?_⟩
                          (first
                            | (go_at_call 61; exact law11_of _ _ _ _ _ _ _ _)
                            | (go_at_call 60; exact CF3.out _ (gw_after _ p)))
                          clear hKK KK)))
                iterate 3 (refine wpFresh_al rfl ?_)
                refine wpFresh_nil ?_
                intro P Q T wx hL
                obtain ⟨AX, ⟨b0x, hl0⟩, ⟨b1x, hl1⟩, ⟨b2x, hl2⟩, ne01, ne02, ne12⟩ := hL.three (by decide) (by decide) (by decide)
                have b0_0 : Blk wx P 59 #[.int .i64 0, .int .i64 0, .int .i64 0, .int .i64 0] := b0x
                have b1_0 : Blk wx Q 59 #[.int .i64 0, .int .i64 0, .int .i64 0, .int .i64 0] := b1x
                have b2_0 : Blk wx T 59 #[.int .i64 0, .int .i64 0, .int .i64 0, .int .i64 0] := b2x
                clear hL b0x b1x b2x qk0 qk1 qk2 qk3 qk4 qk5 qk6 ql0 ql1 ql2 ql3 ql4 ql5 ql6 qm0 qm1 qm2 qm3 qm4 qm5 qm6
                have c00 := b0_0.cell 0
                have f00 := b0_0.frozen 0
                have c01 := b0_0.cell 1
                have f01 := b0_0.frozen 1
                have c02 := b0_0.cell 2
                have f02 := b0_0.frozen 2
                have c03 := b0_0.cell 3
                have f03 := b0_0.frozen 3
                simp at c00 c01 c02 c03
                obtain ⟨wk, hwk⟩ : ∃ wk, (((wx.setCell ⟨P, 0, none⟩ (.int .i64 x)).setCell ⟨P, 1, none⟩ (.int .i64 z)).setCell ⟨P, 2, none⟩ (.int .i64 (x + wd))).setCell ⟨P, 3, none⟩ (.int .i64 (z + ht)) = wk := ⟨_, rfl⟩
                have b0_1 : Blk wk P 59 #[.int .i64 x, .int .i64 z, .int .i64 (x + wd), .int .i64 (z + ht)] := hwk ▸ ((((b0_0.set_ 0 _).set_ 1 _).set_ 2 _).set_ 3 _)
                have b1_1 : Blk wk Q 59 #[.int .i64 0, .int .i64 0, .int .i64 0, .int .i64 0] := hwk ▸ ((((b1_0.far (p := ⟨P, 0, none⟩) (Ne.symm ne01) _).far (p := ⟨P, 1, none⟩) (Ne.symm ne01) _).far (p := ⟨P, 2, none⟩) (Ne.symm ne01) _).far (p := ⟨P, 3, none⟩) (Ne.symm ne01) _)
                have b2_1 : Blk wk T 59 #[.int .i64 0, .int .i64 0, .int .i64 0, .int .i64 0] := hwk ▸ ((((b2_0.far (p := ⟨P, 0, none⟩) (Ne.symm ne02) _).far (p := ⟨P, 1, none⟩) (Ne.symm ne02) _).far (p := ⟨P, 2, none⟩) (Ne.symm ne02) _).far (p := ⟨P, 3, none⟩) (Ne.symm ne02) _)
                have AX0 : After W7 wk := hwk ▸ ((((AX.setCell hl0 _).setCell hl0 _).setCell hl0 _).setCell hl0 _)
                have c10 := b1_1.cell 0
                have f10 := b1_1.frozen 0
                have c11 := b1_1.cell 1
                have f11 := b1_1.frozen 1
                have c12 := b1_1.cell 2
                have f12 := b1_1.frozen 2
                have c13 := b1_1.cell 3
                have f13 := b1_1.frozen 3
                simp at c10 c11 c12 c13
                obtain ⟨wm, hwm⟩ : ∃ wm, (((wk.setCell ⟨Q, 0, none⟩ (.int .i64 x2)).setCell ⟨Q, 1, none⟩ (.int .i64 z2)).setCell ⟨Q, 2, none⟩ (.int .i64 (x2 + wn))).setCell ⟨Q, 3, none⟩ (.int .i64 (z2 + ht)) = wm := ⟨_, rfl⟩
                have b0_2 : Blk wm P 59 #[.int .i64 x, .int .i64 z, .int .i64 (x + wd), .int .i64 (z + ht)] := hwm ▸ ((((b0_1.far (p := ⟨Q, 0, none⟩) ne01 _).far (p := ⟨Q, 1, none⟩) ne01 _).far (p := ⟨Q, 2, none⟩) ne01 _).far (p := ⟨Q, 3, none⟩) ne01 _)
                have b1_2 : Blk wm Q 59 #[.int .i64 x2, .int .i64 z2, .int .i64 (x2 + wn), .int .i64 (z2 + ht)] := hwm ▸ ((((b1_1.set_ 0 _).set_ 1 _).set_ 2 _).set_ 3 _)
                have b2_2 : Blk wm T 59 #[.int .i64 0, .int .i64 0, .int .i64 0, .int .i64 0] := hwm ▸ ((((b2_1.far (p := ⟨Q, 0, none⟩) (Ne.symm ne12) _).far (p := ⟨Q, 1, none⟩) (Ne.symm ne12) _).far (p := ⟨Q, 2, none⟩) (Ne.symm ne12) _).far (p := ⟨Q, 3, none⟩) (Ne.symm ne12) _)
                have AX1 : After W7 wm := hwm ▸ ((((AX0.setCell hl1 _).setCell hl1 _).setCell hl1 _).setCell hl1 _)
                have c20 := b2_2.cell 0
                have f20 := b2_2.frozen 0
                have c21 := b2_2.cell 1
                have f21 := b2_2.frozen 1
                have c22 := b2_2.cell 2
                have f22 := b2_2.frozen 2
                have c23 := b2_2.cell 3
                have f23 := b2_2.frozen 3
                simp at c20 c21 c22 c23
                obtain ⟨wy, hwy⟩ : ∃ wy, (((wm.setCell ⟨T, 0, none⟩ (.int .i64 x3)).setCell ⟨T, 1, none⟩ (.int .i64 z3)).setCell ⟨T, 2, none⟩ (.int .i64 (x3 + wd))).setCell ⟨T, 3, none⟩ (.int .i64 (z3 + ht)) = wy := ⟨_, rfl⟩
                have b0_3 : Blk wy P 59 #[.int .i64 x, .int .i64 z, .int .i64 (x + wd), .int .i64 (z + ht)] := hwy ▸ ((((b0_2.far (p := ⟨T, 0, none⟩) ne02 _).far (p := ⟨T, 1, none⟩) ne02 _).far (p := ⟨T, 2, none⟩) ne02 _).far (p := ⟨T, 3, none⟩) ne02 _)
                have b1_3 : Blk wy Q 59 #[.int .i64 x2, .int .i64 z2, .int .i64 (x2 + wn), .int .i64 (z2 + ht)] := hwy ▸ ((((b1_2.far (p := ⟨T, 0, none⟩) ne12 _).far (p := ⟨T, 1, none⟩) ne12 _).far (p := ⟨T, 2, none⟩) ne12 _).far (p := ⟨T, 3, none⟩) ne12 _)
                have b2_3 : Blk wy T 59 #[.int .i64 x3, .int .i64 z3, .int .i64 (x3 + wd), .int .i64 (z3 + ht)] := hwy ▸ ((((b2_2.set_ 0 _).set_ 1 _).set_ 2 _).set_ 3 _)
                have AX2 : After W7 wy := hwy ▸ ((((AX1.setCell hl2 _).setCell hl2 _).setCell hl2 _).setCell hl2 _)
                have HP := Lib.hid b0_3
                have HQ := Lib.hid b1_3
                have HT := Lib.hid b2_3
                have A8 := Lib.hid AX2
                clear b0_0 b0_1 b0_2 b0_3 b1_0 b1_1 b1_2 b1_3 b2_0 b2_1 b2_2 b2_3 AX AX0 AX1 AX2 ne01 ne02 ne12
                have n0 := HP.out.cell 1
                have n1 := HQ.out.cell 1
                have n2 := HT.out.cell 1
                simp at n0 n1 n2
                have A08 := Lib.hid (A4.out.trans (Aw.out.trans A8.out))
                have hle := HLE.out
                obtain ⟨hl, hg⟩ := hle
                have hl' : decide (z2 ≤ z) = true := decide_eq_true hl
                go_wp2_with fail
                go_ret
                exact ⟨ret_bool (by first | rfl | simp [hl, hg]), A08.out⟩
              · have hw5' : wc.setCell ⟨p, 4, none⟩ (.int .i64 0) = w5 := by rw [← hw5, show wn = 0 by omega]
                go_wp2_with fail
                clear hw5 hw5' hw7 c4 d4 e4 d6 e6
                have k0 := Bm.out.cell 0
                have k1 := Bm.out.cell 1
                have k2 := Bm.out.cell 2
                have k3 := Bm.out.cell 3
                have k4 := Bm.out.cell 4
                have k5 := Bm.out.cell 5
                have k6 := Bm.out.cell 6
                have l0 := Bp.out.cell 0
                have l1 := Bp.out.cell 1
                have l2 := Bp.out.cell 2
                have l3 := Bp.out.cell 3
                have l4 := Bp.out.cell 4
                have l5 := Bp.out.cell 5
                have l6 := Bp.out.cell 6
                have m0 := Bq.out.cell 0
                have m1 := Bq.out.cell 1
                have m2 := Bq.out.cell 2
                have m3 := Bq.out.cell 3
                have m4 := Bq.out.cell 4
                have m5 := Bq.out.cell 5
                have m6 := Bq.out.cell 6
                simp at k0 k1 k2 k3 k4 k5 k6 l0 l1 l2 l3 l4 l5 l6 m0 m1 m2 m3 m4 m5 m6
                have qk0 := fun n os => cell_grown (w := W7) Bm.out.lt k0 n os
                have qk1 := fun n os => cell_grown (w := W7) Bm.out.lt k1 n os
                have qk2 := fun n os => cell_grown (w := W7) Bm.out.lt k2 n os
                have qk3 := fun n os => cell_grown (w := W7) Bm.out.lt k3 n os
                have qk4 := fun n os => cell_grown (w := W7) Bm.out.lt k4 n os
                have qk5 := fun n os => cell_grown (w := W7) Bm.out.lt k5 n os
                have qk6 := fun n os => cell_grown (w := W7) Bm.out.lt k6 n os
                have ql0 := fun n os => cell_grown (w := W7) Bp.out.lt l0 n os
                have ql1 := fun n os => cell_grown (w := W7) Bp.out.lt l1 n os
                have ql2 := fun n os => cell_grown (w := W7) Bp.out.lt l2 n os
                have ql3 := fun n os => cell_grown (w := W7) Bp.out.lt l3 n os
                have ql4 := fun n os => cell_grown (w := W7) Bp.out.lt l4 n os
                have ql5 := fun n os => cell_grown (w := W7) Bp.out.lt l5 n os
                have ql6 := fun n os => cell_grown (w := W7) Bp.out.lt l6 n os
                have qm0 := fun n os => cell_grown (w := W7) Bq.out.lt m0 n os
                have qm1 := fun n os => cell_grown (w := W7) Bq.out.lt m1 n os
                have qm2 := fun n os => cell_grown (w := W7) Bq.out.lt m2 n os
                have qm3 := fun n os => cell_grown (w := W7) Bq.out.lt m3 n os
                have qm4 := fun n os => cell_grown (w := W7) Bq.out.lt m4 n os
                have qm5 := fun n os => cell_grown (w := W7) Bq.out.lt m5 n os
                have qm6 := fun n os => cell_grown (w := W7) Bq.out.lt m6 n os
                clear k0 k1 k2 k3 k4 k5 k6 l0 l1 l2 l3 l4 l5 l6 m0 m1 m2 m3 m4 m5 m6
                go_wp2_with fail
                refine wp_region_fresh 15 [(12, .cells #[.int .i64 0, .int .i64 0, .int .i64 0, .int .i64 0] 59), (13, .cells #[.int .i64 0, .int .i64 0, .int .i64 0, .int .i64 0] 59), (14, .cells #[.int .i64 0, .int .i64 0, .int .i64 0, .int .i64 0] 59)] hmix (by kernel_rfl) (lays_of (by decide) (by kernel_rfl) (lays_cons rfl rfl (fun _ => rfl) (al_rect _ rfl) (lays_cons rfl rfl (fun _ => rfl) (al_rect _ rfl) (lays_cons rfl rfl (fun _ => rfl) (al_rect _ rfl) (fun x hx => by cases hx))))) ?_
                simp only [List.take_succ_cons, List.take_zero, List.drop_succ_cons, List.drop_zero]
                iterate 4 (first
                  | refine wpFresh_al rfl ?_
                  | (refine wpFresh_step rfl (fun KK hKK => ?_)
                     go_simp
                     first
                       | (refine hKK _ ?_; clear hKK KK)
                       | (apply Exists.intro
                          refine ⟨fun p => ?_, hKK _ ?_⟩
                          (first
                            | (go_at_call 61; exact law11_of _ _ _ _ _ _ _ _)
                            | (go_at_call 60; exact CF1.out _ (gw_after _ p)))
                          clear hKK KK)))
                iterate 4 (first
                  | refine wpFresh_al rfl ?_
                  | (refine wpFresh_step rfl (fun KK hKK => ?_)
                     go_simp
                     first
                       | (refine hKK _ ?_; clear hKK KK)
                       | (apply Exists.intro
                          refine ⟨fun p => ?_, hKK _ ?_⟩
                          (first
                            | (go_at_call 61; exact law11_of _ _ _ _ _ _ _ _)
                            | (go_at_call 60; exact CF2.out _ (gw_after _ p)))
                          clear hKK KK)))
                iterate 4 (first
                  | refine wpFresh_al rfl ?_
                  | (refine wpFresh_step rfl (fun KK hKK => ?_)
                     go_simp
                     first
                       | (refine hKK _ ?_; clear hKK KK)
                       | (apply Exists.intro
                          refine ⟨fun p => ?_, hKK _ ?_⟩
                          (first
                            | (go_at_call 61; exact law11_of _ _ _ _ _ _ _ _)
                            | (go_at_call 60; exact CF3.out _ (gw_after _ p)))
                          clear hKK KK)))
                iterate 3 (refine wpFresh_al rfl ?_)
                refine wpFresh_nil ?_
                intro P Q T wx hL
                obtain ⟨AX, ⟨b0x, hl0⟩, ⟨b1x, hl1⟩, ⟨b2x, hl2⟩, ne01, ne02, ne12⟩ := hL.three (by decide) (by decide) (by decide)
                have b0_0 : Blk wx P 59 #[.int .i64 0, .int .i64 0, .int .i64 0, .int .i64 0] := b0x
                have b1_0 : Blk wx Q 59 #[.int .i64 0, .int .i64 0, .int .i64 0, .int .i64 0] := b1x
                have b2_0 : Blk wx T 59 #[.int .i64 0, .int .i64 0, .int .i64 0, .int .i64 0] := b2x
                clear hL b0x b1x b2x qk0 qk1 qk2 qk3 qk4 qk5 qk6 ql0 ql1 ql2 ql3 ql4 ql5 ql6 qm0 qm1 qm2 qm3 qm4 qm5 qm6
                have c00 := b0_0.cell 0
                have f00 := b0_0.frozen 0
                have c01 := b0_0.cell 1
                have f01 := b0_0.frozen 1
                have c02 := b0_0.cell 2
                have f02 := b0_0.frozen 2
                have c03 := b0_0.cell 3
                have f03 := b0_0.frozen 3
                simp at c00 c01 c02 c03
                obtain ⟨wk, hwk⟩ : ∃ wk, (((wx.setCell ⟨P, 0, none⟩ (.int .i64 x)).setCell ⟨P, 1, none⟩ (.int .i64 z)).setCell ⟨P, 2, none⟩ (.int .i64 (x + wd))).setCell ⟨P, 3, none⟩ (.int .i64 (z + ht)) = wk := ⟨_, rfl⟩
                have b0_1 : Blk wk P 59 #[.int .i64 x, .int .i64 z, .int .i64 (x + wd), .int .i64 (z + ht)] := hwk ▸ ((((b0_0.set_ 0 _).set_ 1 _).set_ 2 _).set_ 3 _)
                have b1_1 : Blk wk Q 59 #[.int .i64 0, .int .i64 0, .int .i64 0, .int .i64 0] := hwk ▸ ((((b1_0.far (p := ⟨P, 0, none⟩) (Ne.symm ne01) _).far (p := ⟨P, 1, none⟩) (Ne.symm ne01) _).far (p := ⟨P, 2, none⟩) (Ne.symm ne01) _).far (p := ⟨P, 3, none⟩) (Ne.symm ne01) _)
                have b2_1 : Blk wk T 59 #[.int .i64 0, .int .i64 0, .int .i64 0, .int .i64 0] := hwk ▸ ((((b2_0.far (p := ⟨P, 0, none⟩) (Ne.symm ne02) _).far (p := ⟨P, 1, none⟩) (Ne.symm ne02) _).far (p := ⟨P, 2, none⟩) (Ne.symm ne02) _).far (p := ⟨P, 3, none⟩) (Ne.symm ne02) _)
                have AX0 : After W7 wk := hwk ▸ ((((AX.setCell hl0 _).setCell hl0 _).setCell hl0 _).setCell hl0 _)
                have c10 := b1_1.cell 0
                have f10 := b1_1.frozen 0
                have c11 := b1_1.cell 1
                have f11 := b1_1.frozen 1
                have c12 := b1_1.cell 2
                have f12 := b1_1.frozen 2
                have c13 := b1_1.cell 3
                have f13 := b1_1.frozen 3
                simp at c10 c11 c12 c13
                obtain ⟨wm, hwm⟩ : ∃ wm, (((wk.setCell ⟨Q, 0, none⟩ (.int .i64 x2)).setCell ⟨Q, 1, none⟩ (.int .i64 z2)).setCell ⟨Q, 2, none⟩ (.int .i64 (x2 + wn))).setCell ⟨Q, 3, none⟩ (.int .i64 (z2 + ht)) = wm := ⟨_, rfl⟩
                have b0_2 : Blk wm P 59 #[.int .i64 x, .int .i64 z, .int .i64 (x + wd), .int .i64 (z + ht)] := hwm ▸ ((((b0_1.far (p := ⟨Q, 0, none⟩) ne01 _).far (p := ⟨Q, 1, none⟩) ne01 _).far (p := ⟨Q, 2, none⟩) ne01 _).far (p := ⟨Q, 3, none⟩) ne01 _)
                have b1_2 : Blk wm Q 59 #[.int .i64 x2, .int .i64 z2, .int .i64 (x2 + wn), .int .i64 (z2 + ht)] := hwm ▸ ((((b1_1.set_ 0 _).set_ 1 _).set_ 2 _).set_ 3 _)
                have b2_2 : Blk wm T 59 #[.int .i64 0, .int .i64 0, .int .i64 0, .int .i64 0] := hwm ▸ ((((b2_1.far (p := ⟨Q, 0, none⟩) (Ne.symm ne12) _).far (p := ⟨Q, 1, none⟩) (Ne.symm ne12) _).far (p := ⟨Q, 2, none⟩) (Ne.symm ne12) _).far (p := ⟨Q, 3, none⟩) (Ne.symm ne12) _)
                have AX1 : After W7 wm := hwm ▸ ((((AX0.setCell hl1 _).setCell hl1 _).setCell hl1 _).setCell hl1 _)
                have c20 := b2_2.cell 0
                have f20 := b2_2.frozen 0
                have c21 := b2_2.cell 1
                have f21 := b2_2.frozen 1
                have c22 := b2_2.cell 2
                have f22 := b2_2.frozen 2
                have c23 := b2_2.cell 3
                have f23 := b2_2.frozen 3
                simp at c20 c21 c22 c23
                obtain ⟨wy, hwy⟩ : ∃ wy, (((wm.setCell ⟨T, 0, none⟩ (.int .i64 x3)).setCell ⟨T, 1, none⟩ (.int .i64 z3)).setCell ⟨T, 2, none⟩ (.int .i64 (x3 + wd))).setCell ⟨T, 3, none⟩ (.int .i64 (z3 + ht)) = wy := ⟨_, rfl⟩
                have b0_3 : Blk wy P 59 #[.int .i64 x, .int .i64 z, .int .i64 (x + wd), .int .i64 (z + ht)] := hwy ▸ ((((b0_2.far (p := ⟨T, 0, none⟩) ne02 _).far (p := ⟨T, 1, none⟩) ne02 _).far (p := ⟨T, 2, none⟩) ne02 _).far (p := ⟨T, 3, none⟩) ne02 _)
                have b1_3 : Blk wy Q 59 #[.int .i64 x2, .int .i64 z2, .int .i64 (x2 + wn), .int .i64 (z2 + ht)] := hwy ▸ ((((b1_2.far (p := ⟨T, 0, none⟩) ne12 _).far (p := ⟨T, 1, none⟩) ne12 _).far (p := ⟨T, 2, none⟩) ne12 _).far (p := ⟨T, 3, none⟩) ne12 _)
                have b2_3 : Blk wy T 59 #[.int .i64 x3, .int .i64 z3, .int .i64 (x3 + wd), .int .i64 (z3 + ht)] := hwy ▸ ((((b2_2.set_ 0 _).set_ 1 _).set_ 2 _).set_ 3 _)
                have AX2 : After W7 wy := hwy ▸ ((((AX1.setCell hl2 _).setCell hl2 _).setCell hl2 _).setCell hl2 _)
                have HP := Lib.hid b0_3
                have HQ := Lib.hid b1_3
                have HT := Lib.hid b2_3
                have A8 := Lib.hid AX2
                clear b0_0 b0_1 b0_2 b0_3 b1_0 b1_1 b1_2 b1_3 b2_0 b2_1 b2_2 b2_3 AX AX0 AX1 AX2 ne01 ne02 ne12
                have n0 := HP.out.cell 1
                have n1 := HQ.out.cell 1
                have n2 := HT.out.cell 1
                simp at n0 n1 n2
                have A08 := Lib.hid (A4.out.trans (Aw.out.trans A8.out))
                have hle := HLE.out
                obtain ⟨hl, hg⟩ := hle
                have hl' : decide (z2 ≤ z) = true := decide_eq_true hl
                go_wp2_with fail
                go_ret
                exact ⟨ret_bool (by first | rfl | simp [hl, hg]), A08.out⟩
end Go.Proofs.Ytefbeekjoafijaa
