/- Walk of PlaceMirror. -/
import Derived.Test.YtefbeekjoafijaaGuard11
import Derived.Test.YtefbeekjoafijaaMirror
import Derived.BigRegion
namespace Go.Proofs.Ytefbeekjoafijaa
open Go.RowKit Go.Sort
set_option linter.unusedVariables false
set_option linter.unusedSimpArgs false
attribute [local irreducible] wpQuiet


set_option maxRecDepth 100000 in
set_option maxHeartbeats 8000000 in
theorem placeMirror {w : World} {v : Value} {fs : List Flt} (h : FlsAt w v fs) (side clear a b wd ht y : Int) : Calls Try.prog 18 #[v, .agg #[.int .i64 side, .int .i64 clear, .int .i64 a, .int .i64 b, .int .i64 wd, .int .i64 ht, .int .i64 y]] w (Ret (.bool true) w) := by
  have hmix := mixed
  have HB0 := Lib.hid (Blk.new w 92 #[.int .i64 side, .int .i64 clear, .int .i64 a, .int .i64 b, .int .i64 wd, .int .i64 ht, .int .i64 y])
  have HA0 := Lib.hid ((After.refl w).alloc (.cells #[.int .i64 side, .int .i64 clear, .int .i64 a, .int .i64 b, .int .i64 wd, .int .i64 ht, .int .i64 y] 92))
  have HV := Lib.hid h
  clear h
  cases hn : nearB fs 20 with
  | false =>
    have HN := Lib.hid hn
    clear hn
    go_enter Try.func18, Try.ntmps18
    go_wp2_with fail
    refine (law11_begin (HV.out.after HA0.out) 20 (by decide)).mono ?_
    rintro e w1 (⟨_, rfl, hw1⟩ | ⟨hh, _⟩)
    · go_wp2_with fail
      refine (law11_speaks _).mono ?_
      rintro e w3 ⟨rfl, hw3⟩
      go_wp2_with fail
      refine (law11_speaks _).mono ?_
      rintro e w4 ⟨rfl, hw4⟩
      go_wp2
      go_ret
      exact ⟨rfl, HA0.out.trans (hw1.trans (hw3.trans hw4))⟩
    · rw [HN.out] at hh; cases hh
  | true =>
    have hall : fs.all smallF = true := by unfold nearB at hn; simp only [Bool.and_eq_true] at hn; exact (all_small hn.1).1
    have hlen : fs.length ≤ 20 := by unfold nearB at hn; simp only [Bool.and_eq_true, decide_eq_true_eq] at hn; have := hn.2; omega
    have HALL := Lib.hid hall
    have HN := Lib.hid hn
    clear hn hall
    cases hr : rightP side clear a b wd ht y with
    | false =>
      have HR := Lib.hid hr
      clear hr
      go_enter Try.func18, Try.ntmps18
      go_wp2_with fail
      refine (law11_begin (HV.out.after HA0.out) 20 (by decide)).mono ?_
      rintro e w1 (⟨hh, _⟩ | ⟨_, S, L, g, cap, fv, rfl, hs, hw1⟩)
      · rw [HN.out] at hh; cases hh
      · have HS1 := Lib.hid hs
        clear hs
        go_wp2_with fail
        refine (law11_speaks _).mono ?_
        rintro e w3 ⟨rfl, hw3⟩
        have A3 := Lib.hid (HA0.out.trans (hw1.trans hw3))
        have B3 := Lib.hid (HB0.out.after (hw1.trans hw3))
        have S3 := Lib.hid (HS1.out.after hw3)
        clear hw1 hw3
        have k0 := B3.out.cell 0
        have k1 := B3.out.cell 1
        have k2 := B3.out.cell 2
        have k3 := B3.out.cell 3
        have k4 := B3.out.cell 4
        have k5 := B3.out.cell 5
        have k6 := B3.out.cell 6
        simp at k0 k1 k2 k3 k4 k5 k6
        go_wp2_with fail
        refine (ref11_right side clear a b wd ht y _).mono ?_
        rintro e w4 ⟨rfl, hw4⟩
        rw [HR.out]
        have A4 := Lib.hid (A3.out.trans hw4)
        have B4 := Lib.hid (B3.out.after hw4)
        have S4 := Lib.hid (S3.out.after hw4)
        clear hw4 k0 k1 k2 k3 k4 k5 k6
        go_wp2_with fail
        refine (law11_speaks _).mono ?_
        rintro e w5 ⟨rfl, hw5⟩
        go_wp2
        go_ret
        exact ⟨rfl, A4.out.trans hw5⟩
    | true =>
      obtain ⟨rs, ra, rb, rc, rd, re, rk0, rk3, rab⟩ := rightP_parts hr
      have HR := Lib.hid hr
      clear hr
      go_enter Try.func18, Try.ntmps18
      go_wp2_with fail
      refine (law11_begin (HV.out.after HA0.out) 20 (by decide)).mono ?_
      rintro e w1 (⟨hh, _⟩ | ⟨_, S, L, g, cap, fv, rfl, hs, hw1⟩)
      · rw [HN.out] at hh; cases hh
      · have HS1 := Lib.hid hs
        clear hs
        go_wp2_with fail
        refine (law11_speaks _).mono ?_
        rintro e w3 ⟨rfl, hw3⟩
        have A3 := Lib.hid (HA0.out.trans (hw1.trans hw3))
        have B3 := Lib.hid (HB0.out.after (hw1.trans hw3))
        have S3 := Lib.hid (HS1.out.after hw3)
        clear hw1 hw3
        have k0 := B3.out.cell 0
        have k1 := B3.out.cell 1
        have k2 := B3.out.cell 2
        have k3 := B3.out.cell 3
        have k4 := B3.out.cell 4
        have k5 := B3.out.cell 5
        have k6 := B3.out.cell 6
        simp at k0 k1 k2 k3 k4 k5 k6
        go_wp2_with fail
        refine (ref11_right side clear a b wd ht y _).mono ?_
        rintro e w4 ⟨rfl, hw4⟩
        rw [HR.out]
        have A4 := Lib.hid (A3.out.trans hw4)
        have B4 := Lib.hid (B3.out.after hw4)
        have S4 := Lib.hid (S3.out.after hw4)
        clear hw4 k0 k1 k2 k3 k4 k5 k6
        obtain ⟨z, hz⟩ : ∃ z, firstOf fs ht (fitsP side a b wd) (startP fs clear y) = z := ⟨_, rfl⟩
        obtain ⟨x, hx⟩ : ∃ x, leftP side a b wd (bandAt fs z ht) = x := ⟨_, rfl⟩
        obtain ⟨z1, z2, z3⟩ := findP_at (clear := clear) (ht := ht) HALL.out rs ra rb rc re
        have zr := findP_range HALL.out ht clear (fitsP side a b wd) re
        have xr0 := leftP_range (ht := ht) (z := z) HALL.out rs ra rb rc
        rw [hz] at z1 z2 z3 zr
        have xr := xr0 zr.1
        rw [hx] at xr
        have zr' := zr
        have A0 := ra
        have B0 := rb
        have C0 := rc
        have D0 := rd
        have E0 := re
        unfold Far at zr'
        unfold L48 at A0 B0 C0 D0 E0
        have hsd : fs.all sideOk = true := by have := HN.out; unfold nearB at this; simp only [Bool.and_eq_true] at this; exact (all_small this.1).2
        have HSD := Lib.hid hsd
        have hnm := near_mir HN.out
        have HALLM := Lib.hid (show (fs.map mirF).all smallF = true by unfold nearB at hnm; simp only [Bool.and_eq_true] at hnm; exact (all_small hnm.1).1)
        have HNM := Lib.hid hnm
        have rs' : 3 - side = 1 ∨ 3 - side = 2 := by omega
        have ra' : L48 (-a) := by unfold L48; omega
        have rb' : L48 (-b) := by unfold L48; omega
        have hsf : -Far ≤ startP fs clear y := by have := startP_range HALL.out clear re; unfold Far; omega
        have HZM := Lib.hid (show firstOf (fs.map mirF) ht (fitsP (3 - side) (-b) (-a) wd) (startP fs clear y) = z by rw [find_mir hsd rs ra rb rc hsf]; exact hz)
        obtain ⟨x2, hx2⟩ : ∃ x2, x2 = -(x + wd) := ⟨_, rfl⟩
        have HXM := Lib.hid (show leftP (3 - side) (-b) (-a) wd (bandAt (fs.map mirF) z ht) = x2 by rw [band_mir hsd ht zr.1, leftP_mir rs, hx, hx2])
        have HX2 := Lib.hid hx2
        clear hx2
        obtain ⟨r1, hr1⟩ : ∃ r, x + wd = r := ⟨_, rfl⟩
        obtain ⟨r2, hr2⟩ : ∃ r, x2 + wd = r := ⟨_, rfl⟩
        obtain ⟨b1, hb1⟩ : ∃ r, z + ht = r := ⟨_, rfl⟩
        have HR1 := Lib.hid hr1
        have HR2 := Lib.hid hr2
        have HB1 := Lib.hid hb1
        have CF0 := fun (w' : World) (hw' : After w4 w') => place_find (clear := clear) (S4.out.after hw') HALL.out rs ra rb rc rd re hz hx
        rw [hr1, hb1] at CF0
        have CF := Lib.hid CF0
        clear CF0 hr1 hr2 hb1
        have hnr := HN.out
        have HNEAR := Lib.hid (fun (f : Flt) (hf : f ∈ fs) => show (f.side = 1 ∨ f.side = 2) ∧ -562949953421312 ≤ f.l ∧ f.l ≤ 562949953421312 ∧ -562949953421312 ≤ f.r ∧ f.r ≤ 562949953421312 by
          unfold nearB at hnr
          simp only [Bool.and_eq_true] at hnr
          have := List.all_eq_true.1 hnr.1 f hf
          unfold nearF near4 at this
          simp only [List.all_cons, List.all_nil, Bool.and_eq_true, in49, sideOk, decide_eq_true_eq, Bool.and_true] at this
          obtain ⟨⟨⟨a1, a2⟩, ⟨b1, b2⟩, ⟨c1, c2⟩, d1, d2⟩, hs⟩ := this
          exact ⟨hs, a1, a2, c1, c2⟩)
        clear hz hx z1 z2 z3 xr0 hsd hnm hsf hnr
        obtain ⟨ad, cap0, rfl, hl0, hlc0, hcell0⟩ := HV.out.split
        have HC0 := Lib.hid hcell0
        clear hcell0
        obtain ⟨i0, hi, hz0, hz1, hz2⟩ := info_parts info_rf
        go_wp2_with fail
        go_loopw [6, 29] (fun tv vk wr => TurnRel fs w4 tv vk wr) (fun _ v _ => fs.length + 1 - (intOf v).toNat)
        case atStart => exact ⟨0, rfl, Nat.zero_le _, ⟨rfl, .inl ⟨rfl, rfl⟩⟩, After.refl _⟩
        case round =>
          rename_i u6 u29
          obtain ⟨k, rfl, hk, hrow, hwr⟩ := hrel
          have HROW := Lib.hid hrow
          have HW := Lib.hid hwr
          clear hrow hwr
          by_cases hlt : k < fs.length
          · obtain ⟨f, hf⟩ : ∃ f, fs[k]? = some f := ⟨_, List.getElem?_eq_getElem hlt⟩
            have hfm : f ∈ fs := List.mem_of_getElem? hf
            obtain ⟨hfs, hfl1, hfl2, hfr1, hfr2⟩ := HNEAR.out f hfm
            obtain ⟨b9, o9, rfl, hb9, hc9⟩ := HC0.out k f hf
            obtain ⟨c0, c1, c2, c3, c4⟩ := hc9.after hb9 (A4.out.trans HW.out)
            have htk := Lib.hid (take_snoc hf)
            have hw1 : IntKind.i64.wrap (3 - f.side) = 3 - f.side := by rw [IntKind.wrap_i64]; omega
            have hw2 : IntKind.i64.wrap (-f.r) = -f.r := by rw [IntKind.wrap_i64]; omega
            have hw3 : IntKind.i64.wrap (-f.l) = -f.l := by rw [IntKind.wrap_i64]; omega
            have HB2 := Lib.hid (blk_new1 wr (.cells #[.int .i64 (3 - f.side), .int .i64 (-f.r), .int .i64 f.t, .int .i64 (-f.l), .int .i64 f.b] 72) 72 #[.int .i64 (3 - f.side), .int .i64 (-f.r), .int .i64 f.t, .int .i64 (-f.l), .int .i64 f.b])
            have HA2 := Lib.hid (((After.refl wr).alloc (.cells #[.int .i64 (3 - f.side), .int .i64 (-f.r), .int .i64 f.t, .int .i64 (-f.l), .int .i64 f.b] 72)).alloc (.cells #[.int .i64 (3 - f.side), .int .i64 (-f.r), .int .i64 f.t, .int .i64 (-f.l), .int .i64 f.b] 72))
            have HO := Lib.hid (ownsRow_kept HROW.out (HA2.out.only (fun _ => False)) (fun _ _ h => h))
            have HL := Lib.hid (show k + 1 ≤ maxLen by unfold maxLen; omega)
            have HBY := Lib.hid (show (k + 1) * 40 ≤ 140737488355328 by omega)
            have HBS := Lib.hid (show w4.heap.size ≤ ((wr.alloc (.cells #[.int .i64 (3 - f.side), .int .i64 (-f.r), .int .i64 f.t, .int .i64 (-f.l), .int .i64 f.b] 72)).alloc (.cells #[.int .i64 (3 - f.side), .int .i64 (-f.r), .int .i64 f.t, .int .i64 (-f.l), .int .i64 f.b] 72)).heap.size from (HW.out.trans HA2.out).size)
            have HNW := Lib.hid (fun (j : Nat) (u : Value) (hu : (flCells (mirF f))[j]? = some u) => show ((wr.alloc (.cells #[.int .i64 (3 - f.side), .int .i64 (-f.r), .int .i64 f.t, .int .i64 (-f.l), .int .i64 f.b] 72)).alloc (.cells #[.int .i64 (3 - f.side), .int .i64 (-f.r), .int .i64 f.t, .int .i64 (-f.l), .int .i64 f.b] 72)).cell? ((⟨wr.heap.size + 1, 0, none⟩ : Addr).add j) = some u by
              rw [add_lit, Nat.zero_add, HB2.out.cell j]
              show (flCells (mirF f)).toArray[j]? = some u
              rw [List.getElem?_toArray]; exact hu)
            have HON := Lib.hid (oneCell_int _ (flCells_ints (mirF f)))
            clear hf hc9 hb9
            go_wp2_with (at_builtin; refine wpList_append_mine _ rfl _ _ 22 rfl w4.heap.size 72 i0 _ 5 40 Try.underlying22 hi hz0 hz1 hz2 rfl (by decide) _ _ _ rfl HO.out ⟨wr.heap.size + 1, 0, none⟩ 1 1 (flCells (mirF f)) rfl rfl HNW.out HON.out (by decide) HL.out HBY.out HBS.out ?_; intro g1 cap1 w1 hown1 hgrow1 hat1 hlt1 hdr1)
            refine ⟨⟨k + 1, by simp, by omega, ?_, ?_⟩, by simp [intOf]; omega⟩
            · rw [htk.out, List.map_append, flRow_append]
              exact hown1
            · exact (((HW.out.trans HA2.out).only _).trans (Only.of_grownOwn hgrow1 hdr1) (fun _ _ h => h)).after_of (fun b hb hS => by have := (HROW.out.lt b hS).1; omega)
          · have e0 : k = fs.length := by omega
            have hrow2 := HROW.out
            rw [e0, List.take_length] at hrow2
            have HF := Lib.hid (flsAt_of_row hrow2 (by simp))
            clear hrow2
            go_wp2_with fail
            refine (law11_begin HF.out 20 (by decide)).mono ?_
            rintro e w8 (⟨hh, _⟩ | ⟨_, S2, L2, g2, cap2, fv2, rfl, h8', hw8⟩)
            · rw [HNM.out] at hh; cases hh
            · have h8 := Lib.hid h8'
              have A8 := Lib.hid (HW.out.trans hw8)
              have B8 := Lib.hid (B4.out.after A8.out)
              clear h8' hw8 HF
              have k0 := B8.out.cell 0
              have k1 := B8.out.cell 1
              have k2 := B8.out.cell 2
              have k3 := B8.out.cell 3
              have k4 := B8.out.cell 4
              have k5 := B8.out.cell 5
              have k6 := B8.out.cell 6
              simp at k0 k1 k2 k3 k4 k5 k6
              have j0 := fun o => (B8.out.alloc o).cell 0
              have j1 := fun o => (B8.out.alloc o).cell 1
              have j2 := fun o => (B8.out.alloc o).cell 2
              have j3 := fun o => (B8.out.alloc o).cell 3
              simp at j0 j1 j2 j3
              have hws : IntKind.i64.wrap (3 - side) = 3 - side := by rw [IntKind.wrap_i64]; omega
              have hwc : IntKind.i64.wrap (3 - clear) = 3 - clear := by rw [IntKind.wrap_i64]; omega
              have hwa : IntKind.i64.wrap (-a) = -a := by rw [IntKind.wrap_i64]; omega
              have hwb : IntKind.i64.wrap (-b) = -b := by rw [IntKind.wrap_i64]; omega
              by_cases c1 : clear = 1
              · subst c1
                have hmc : mirC 1 = 2 := by unfold mirC; first | (rw [if_pos (by omega)]; done) | (rw [if_pos (by omega)]; rfl) | (rw [if_neg (by omega)]; done)
                have hst' : startP (fs.map mirF) 2 y = startP fs 1 y := by have := startP_mir HSD.out 1 y; rwa [hmc] at this
                have CFm0 := fun (w' : World) (hw' : After w8 w') => place_find (clear := 2) (y := y) (h8.out.after hw') HALLM.out rs' rb' ra' rc rd re (by rw [hst']; exact HZM.out) HXM.out
                rw [HR2.out, HB1.out] at CFm0
                have CFm := Lib.hid CFm0
                clear CFm0
                have Bm := Lib.hid (B8.out.alloc (.cells #[.int .i64 (3 - side), .int .i64 2, .int .i64 (-b), .int .i64 (-a), .int .i64 wd, .int .i64 ht, .int .i64 y] 92)).drew
                have Bv := Lib.hid (Blk.new w8 92 #[.int .i64 (3 - side), .int .i64 2, .int .i64 (-b), .int .i64 (-a), .int .i64 wd, .int .i64 ht, .int .i64 y]).drew
                have Aw := Lib.hid ((After.refl w8).alloc (.cells #[.int .i64 (3 - side), .int .i64 2, .int .i64 (-b), .int .i64 (-a), .int .i64 wd, .int .i64 ht, .int .i64 y] 92)).drew
                have CF1 := Lib.hid (fun (w' : World) (hw' : After (w8.alloc (.cells #[.int .i64 (3 - side), .int .i64 2, .int .i64 (-b), .int .i64 (-a), .int .i64 wd, .int .i64 ht, .int .i64 y] 92)).drew w') => CF.out w' (A8.out.trans (Aw.out.trans hw')))
                have CF2 := Lib.hid (fun (w' : World) (hw' : After (w8.alloc (.cells #[.int .i64 (3 - side), .int .i64 2, .int .i64 (-b), .int .i64 (-a), .int .i64 wd, .int .i64 ht, .int .i64 y] 92)).drew w') => CFm.out w' (Aw.out.trans hw'))
                clear hmc hst' CFm
                go_wp2_with fail
                go_region
                go_wp2_with fail
                generalize hW9 : (w8.alloc (.cells #[.int .i64 (3 - side), .int .i64 2, .int .i64 (-b), .int .i64 (-a), .int .i64 wd, .int .i64 ht, .int .i64 y] 92)).drew = W9 at Bm Bv Aw CF1 CF2 ⊢
                clear hW9 k0 k1 k2 k3 k4 k5 k6 j0 j1 j2 j3
                have k0 := Bm.out.cell 0
                have k1 := Bm.out.cell 1
                have k2 := Bm.out.cell 2
                have k3 := Bm.out.cell 3
                have k4 := Bm.out.cell 4
                have k5 := Bm.out.cell 5
                have k6 := Bm.out.cell 6
                have l0 := Bv.out.cell 0
                have l1 := Bv.out.cell 1
                have l2 := Bv.out.cell 2
                have l3 := Bv.out.cell 3
                have l4 := Bv.out.cell 4
                have l5 := Bv.out.cell 5
                have l6 := Bv.out.cell 6
                simp at k0 k1 k2 k3 k4 k5 k6 l0 l1 l2 l3 l4 l5 l6
                have qk0 := fun n os => cell_grown (w := W9) Bm.out.lt k0 n os
                have qk1 := fun n os => cell_grown (w := W9) Bm.out.lt k1 n os
                have qk2 := fun n os => cell_grown (w := W9) Bm.out.lt k2 n os
                have qk3 := fun n os => cell_grown (w := W9) Bm.out.lt k3 n os
                have qk4 := fun n os => cell_grown (w := W9) Bm.out.lt k4 n os
                have qk5 := fun n os => cell_grown (w := W9) Bm.out.lt k5 n os
                have qk6 := fun n os => cell_grown (w := W9) Bm.out.lt k6 n os
                have ql0 := fun n os => cell_grown (w := W9) Bv.out.lt l0 n os
                have ql1 := fun n os => cell_grown (w := W9) Bv.out.lt l1 n os
                have ql2 := fun n os => cell_grown (w := W9) Bv.out.lt l2 n os
                have ql3 := fun n os => cell_grown (w := W9) Bv.out.lt l3 n os
                have ql4 := fun n os => cell_grown (w := W9) Bv.out.lt l4 n os
                have ql5 := fun n os => cell_grown (w := W9) Bv.out.lt l5 n os
                have ql6 := fun n os => cell_grown (w := W9) Bv.out.lt l6 n os
                clear k0 k1 k2 k3 k4 k5 k6 l0 l1 l2 l3 l4 l5 l6
                go_wp2_with fail
                refine wp_region_fresh 10 [(8, .cells #[.int .i64 0, .int .i64 0, .int .i64 0, .int .i64 0] 59), (9, .cells #[.int .i64 0, .int .i64 0, .int .i64 0, .int .i64 0] 59)] hmix (by kernel_rfl) (lays_of (by decide) (by kernel_rfl) (lays_cons rfl rfl (fun _ => rfl) (al_rect _ rfl) (lays_cons rfl rfl (fun _ => rfl) (al_rect _ rfl) (fun x hx => by cases hx)))) ?_
                simp only [List.take_succ_cons, List.take_zero, List.drop_succ_cons, List.drop_zero]
                iterate 4 (first
                  | refine wpFresh_al rfl ?_
                  | (refine wpFresh_step rfl (fun KK hKK => ?_)
                     go_simp
                     first
                       | (refine hKK _ ?_; clear hKK KK)
                       | (apply Exists.intro
                          refine ⟨fun p => ?_, hKK _ ?_⟩
                          (first
                            | (go_at_call 61; exact law11_of _ _ _ _ _ _ _ _)
                            | (go_at_call 60; exact CF1.out _ (gw_after _ p)))
                          clear hKK KK)))
                iterate 4 (first
                  | refine wpFresh_al rfl ?_
                  | (refine wpFresh_step rfl (fun KK hKK => ?_)
                     go_simp
                     first
                       | (refine hKK _ ?_; clear hKK KK)
                       | (apply Exists.intro
                          refine ⟨fun p => ?_, hKK _ ?_⟩
                          (first
                            | (go_at_call 61; exact law11_of _ _ _ _ _ _ _ _)
                            | (go_at_call 60; exact CF2.out _ (gw_after _ p)))
                          clear hKK KK)))
                iterate 2 (refine wpFresh_al rfl ?_)
                refine wpFresh_nil ?_
                intro P Q wx hL
                obtain ⟨AX, ⟨b0x, hl0⟩, ⟨b1x, hl1⟩, ne01⟩ := hL.two (by decide)
                have b0_0 : Blk wx P 59 #[.int .i64 0, .int .i64 0, .int .i64 0, .int .i64 0] := b0x
                have b1_0 : Blk wx Q 59 #[.int .i64 0, .int .i64 0, .int .i64 0, .int .i64 0] := b1x
                clear hL b0x b1x qk0 qk1 qk2 qk3 qk4 qk5 qk6 ql0 ql1 ql2 ql3 ql4 ql5 ql6
                have c00 := b0_0.cell 0
                have f00 := b0_0.frozen 0
                have c01 := b0_0.cell 1
                have f01 := b0_0.frozen 1
                have c02 := b0_0.cell 2
                have f02 := b0_0.frozen 2
                have c03 := b0_0.cell 3
                have f03 := b0_0.frozen 3
                simp at c00 c01 c02 c03
                obtain ⟨wm, hwm⟩ : ∃ wm, (((wx.setCell ⟨P, 0, none⟩ (.int .i64 x)).setCell ⟨P, 1, none⟩ (.int .i64 z)).setCell ⟨P, 2, none⟩ (.int .i64 r1)).setCell ⟨P, 3, none⟩ (.int .i64 b1) = wm := ⟨_, rfl⟩
                have b0_1 : Blk wm P 59 #[.int .i64 x, .int .i64 z, .int .i64 r1, .int .i64 b1] := hwm ▸ ((((b0_0.set_ 0 _).set_ 1 _).set_ 2 _).set_ 3 _)
                have b1_1 : Blk wm Q 59 #[.int .i64 0, .int .i64 0, .int .i64 0, .int .i64 0] := hwm ▸ ((((b1_0.far (p := ⟨P, 0, none⟩) (Ne.symm ne01) _).far (p := ⟨P, 1, none⟩) (Ne.symm ne01) _).far (p := ⟨P, 2, none⟩) (Ne.symm ne01) _).far (p := ⟨P, 3, none⟩) (Ne.symm ne01) _)
                have AX0 : After W9 wm := hwm ▸ ((((AX.setCell hl0 _).setCell hl0 _).setCell hl0 _).setCell hl0 _)
                have c10 := b1_1.cell 0
                have f10 := b1_1.frozen 0
                have c11 := b1_1.cell 1
                have f11 := b1_1.frozen 1
                have c12 := b1_1.cell 2
                have f12 := b1_1.frozen 2
                have c13 := b1_1.cell 3
                have f13 := b1_1.frozen 3
                simp at c10 c11 c12 c13
                obtain ⟨wy, hwy⟩ : ∃ wy, (((wm.setCell ⟨Q, 0, none⟩ (.int .i64 x2)).setCell ⟨Q, 1, none⟩ (.int .i64 z)).setCell ⟨Q, 2, none⟩ (.int .i64 r2)).setCell ⟨Q, 3, none⟩ (.int .i64 b1) = wy := ⟨_, rfl⟩
                have b0_2 : Blk wy P 59 #[.int .i64 x, .int .i64 z, .int .i64 r1, .int .i64 b1] := hwy ▸ ((((b0_1.far (p := ⟨Q, 0, none⟩) ne01 _).far (p := ⟨Q, 1, none⟩) ne01 _).far (p := ⟨Q, 2, none⟩) ne01 _).far (p := ⟨Q, 3, none⟩) ne01 _)
                have b1_2 : Blk wy Q 59 #[.int .i64 x2, .int .i64 z, .int .i64 r2, .int .i64 b1] := hwy ▸ ((((b1_1.set_ 0 _).set_ 1 _).set_ 2 _).set_ 3 _)
                have AX1 : After W9 wy := hwy ▸ ((((AX0.setCell hl1 _).setCell hl1 _).setCell hl1 _).setCell hl1 _)
                have HP := Lib.hid b0_2
                have HQ := Lib.hid b1_2
                have A10 := Lib.hid AX1
                clear b0_0 b0_1 b0_2 b1_0 b1_1 b1_2 AX AX0 AX1 ne01
                have n0 := HP.out.cell 0
                have n1 := HP.out.cell 1
                have n2 := HP.out.cell 2
                have n3 := HP.out.cell 3
                have o0 := HQ.out.cell 0
                have o1 := HQ.out.cell 1
                have o2 := HQ.out.cell 2
                have o3 := HQ.out.cell 3
                simp at n0 n1 n2 n3 o0 o1 o2 o3
                have AF := Lib.hid (A4.out.trans (A8.out.trans (Aw.out.trans A10.out)))
                have hr1 := HR1.out
                have hr2 := HR2.out
                have hx2 := HX2.out
                have hw1 : IntKind.i64.wrap (-r2) = x := by rw [IntKind.wrap_i64]; omega
                have hw2 : IntKind.i64.wrap (-x2) = r1 := by rw [IntKind.wrap_i64]; omega
                clear hr1 hr2 hx2
                go_wp2_with fail
                go_ret
                exact ⟨ret_bool (by first | rfl | simp | (simp; omega)), AF.out⟩
              · by_cases c2 : clear = 2
                · subst c2
                  have hmc : mirC 2 = 1 := by unfold mirC; first | (rw [if_pos (by omega)]; done) | (rw [if_pos (by omega)]; rfl) | (rw [if_neg (by omega)]; done)
                  have hst' : startP (fs.map mirF) 1 y = startP fs 2 y := by have := startP_mir HSD.out 2 y; rwa [hmc] at this
                  have CFm0 := fun (w' : World) (hw' : After w8 w') => place_find (clear := 1) (y := y) (h8.out.after hw') HALLM.out rs' rb' ra' rc rd re (by rw [hst']; exact HZM.out) HXM.out
                  rw [HR2.out, HB1.out] at CFm0
                  have CFm := Lib.hid CFm0
                  clear CFm0
                  have Bm := Lib.hid (B8.out.alloc (.cells #[.int .i64 (3 - side), .int .i64 1, .int .i64 (-b), .int .i64 (-a), .int .i64 wd, .int .i64 ht, .int .i64 y] 92)).drew
                  have Bv := Lib.hid (Blk.new w8 92 #[.int .i64 (3 - side), .int .i64 1, .int .i64 (-b), .int .i64 (-a), .int .i64 wd, .int .i64 ht, .int .i64 y]).drew
                  have Aw := Lib.hid ((After.refl w8).alloc (.cells #[.int .i64 (3 - side), .int .i64 1, .int .i64 (-b), .int .i64 (-a), .int .i64 wd, .int .i64 ht, .int .i64 y] 92)).drew
                  have CF1 := Lib.hid (fun (w' : World) (hw' : After (w8.alloc (.cells #[.int .i64 (3 - side), .int .i64 1, .int .i64 (-b), .int .i64 (-a), .int .i64 wd, .int .i64 ht, .int .i64 y] 92)).drew w') => CF.out w' (A8.out.trans (Aw.out.trans hw')))
                  have CF2 := Lib.hid (fun (w' : World) (hw' : After (w8.alloc (.cells #[.int .i64 (3 - side), .int .i64 1, .int .i64 (-b), .int .i64 (-a), .int .i64 wd, .int .i64 ht, .int .i64 y] 92)).drew w') => CFm.out w' (Aw.out.trans hw'))
                  clear hmc hst' CFm
                  go_wp2_with fail
                  go_region
                  go_wp2_with fail
                  generalize hW9 : (w8.alloc (.cells #[.int .i64 (3 - side), .int .i64 1, .int .i64 (-b), .int .i64 (-a), .int .i64 wd, .int .i64 ht, .int .i64 y] 92)).drew = W9 at Bm Bv Aw CF1 CF2 ⊢
                  clear hW9 k0 k1 k2 k3 k4 k5 k6 j0 j1 j2 j3
                  have k0 := Bm.out.cell 0
                  have k1 := Bm.out.cell 1
                  have k2 := Bm.out.cell 2
                  have k3 := Bm.out.cell 3
                  have k4 := Bm.out.cell 4
                  have k5 := Bm.out.cell 5
                  have k6 := Bm.out.cell 6
                  have l0 := Bv.out.cell 0
                  have l1 := Bv.out.cell 1
                  have l2 := Bv.out.cell 2
                  have l3 := Bv.out.cell 3
                  have l4 := Bv.out.cell 4
                  have l5 := Bv.out.cell 5
                  have l6 := Bv.out.cell 6
                  simp at k0 k1 k2 k3 k4 k5 k6 l0 l1 l2 l3 l4 l5 l6
                  have qk0 := fun n os => cell_grown (w := W9) Bm.out.lt k0 n os
                  have qk1 := fun n os => cell_grown (w := W9) Bm.out.lt k1 n os
                  have qk2 := fun n os => cell_grown (w := W9) Bm.out.lt k2 n os
                  have qk3 := fun n os => cell_grown (w := W9) Bm.out.lt k3 n os
                  have qk4 := fun n os => cell_grown (w := W9) Bm.out.lt k4 n os
                  have qk5 := fun n os => cell_grown (w := W9) Bm.out.lt k5 n os
                  have qk6 := fun n os => cell_grown (w := W9) Bm.out.lt k6 n os
                  have ql0 := fun n os => cell_grown (w := W9) Bv.out.lt l0 n os
                  have ql1 := fun n os => cell_grown (w := W9) Bv.out.lt l1 n os
                  have ql2 := fun n os => cell_grown (w := W9) Bv.out.lt l2 n os
                  have ql3 := fun n os => cell_grown (w := W9) Bv.out.lt l3 n os
                  have ql4 := fun n os => cell_grown (w := W9) Bv.out.lt l4 n os
                  have ql5 := fun n os => cell_grown (w := W9) Bv.out.lt l5 n os
                  have ql6 := fun n os => cell_grown (w := W9) Bv.out.lt l6 n os
                  clear k0 k1 k2 k3 k4 k5 k6 l0 l1 l2 l3 l4 l5 l6
                  go_wp2_with fail
                  refine wp_region_fresh 10 [(8, .cells #[.int .i64 0, .int .i64 0, .int .i64 0, .int .i64 0] 59), (9, .cells #[.int .i64 0, .int .i64 0, .int .i64 0, .int .i64 0] 59)] hmix (by kernel_rfl) (lays_of (by decide) (by kernel_rfl) (lays_cons rfl rfl (fun _ => rfl) (al_rect _ rfl) (lays_cons rfl rfl (fun _ => rfl) (al_rect _ rfl) (fun x hx => by cases hx)))) ?_
                  simp only [List.take_succ_cons, List.take_zero, List.drop_succ_cons, List.drop_zero]
                  iterate 4 (first
                    | refine wpFresh_al rfl ?_
                    | (refine wpFresh_step rfl (fun KK hKK => ?_)
                       go_simp
                       first
                         | (refine hKK _ ?_; clear hKK KK)
                         | (apply Exists.intro
                            refine ⟨fun p => ?_, hKK _ ?_⟩
                            (first
                              | (go_at_call 61; exact law11_of _ _ _ _ _ _ _ _)
                              | (go_at_call 60; exact CF1.out _ (gw_after _ p)))
                            clear hKK KK)))
                  iterate 4 (first
                    | refine wpFresh_al rfl ?_
                    | (refine wpFresh_step rfl (fun KK hKK => ?_)
                       go_simp
                       first
                         | (refine hKK _ ?_; clear hKK KK)
                         | (apply Exists.intro
                            refine ⟨fun p => ?_, hKK _ ?_⟩
                            (first
                              | (go_at_call 61; exact law11_of _ _ _ _ _ _ _ _)
                              | (go_at_call 60; exact CF2.out _ (gw_after _ p)))
                            clear hKK KK)))
                  iterate 2 (refine wpFresh_al rfl ?_)
                  refine wpFresh_nil ?_
                  intro P Q wx hL
                  obtain ⟨AX, ⟨b0x, hl0⟩, ⟨b1x, hl1⟩, ne01⟩ := hL.two (by decide)
                  have b0_0 : Blk wx P 59 #[.int .i64 0, .int .i64 0, .int .i64 0, .int .i64 0] := b0x
                  have b1_0 : Blk wx Q 59 #[.int .i64 0, .int .i64 0, .int .i64 0, .int .i64 0] := b1x
                  clear hL b0x b1x qk0 qk1 qk2 qk3 qk4 qk5 qk6 ql0 ql1 ql2 ql3 ql4 ql5 ql6
                  have c00 := b0_0.cell 0
                  have f00 := b0_0.frozen 0
                  have c01 := b0_0.cell 1
                  have f01 := b0_0.frozen 1
                  have c02 := b0_0.cell 2
                  have f02 := b0_0.frozen 2
                  have c03 := b0_0.cell 3
                  have f03 := b0_0.frozen 3
                  simp at c00 c01 c02 c03
                  obtain ⟨wm, hwm⟩ : ∃ wm, (((wx.setCell ⟨P, 0, none⟩ (.int .i64 x)).setCell ⟨P, 1, none⟩ (.int .i64 z)).setCell ⟨P, 2, none⟩ (.int .i64 r1)).setCell ⟨P, 3, none⟩ (.int .i64 b1) = wm := ⟨_, rfl⟩
                  have b0_1 : Blk wm P 59 #[.int .i64 x, .int .i64 z, .int .i64 r1, .int .i64 b1] := hwm ▸ ((((b0_0.set_ 0 _).set_ 1 _).set_ 2 _).set_ 3 _)
                  have b1_1 : Blk wm Q 59 #[.int .i64 0, .int .i64 0, .int .i64 0, .int .i64 0] := hwm ▸ ((((b1_0.far (p := ⟨P, 0, none⟩) (Ne.symm ne01) _).far (p := ⟨P, 1, none⟩) (Ne.symm ne01) _).far (p := ⟨P, 2, none⟩) (Ne.symm ne01) _).far (p := ⟨P, 3, none⟩) (Ne.symm ne01) _)
                  have AX0 : After W9 wm := hwm ▸ ((((AX.setCell hl0 _).setCell hl0 _).setCell hl0 _).setCell hl0 _)
                  have c10 := b1_1.cell 0
                  have f10 := b1_1.frozen 0
                  have c11 := b1_1.cell 1
                  have f11 := b1_1.frozen 1
                  have c12 := b1_1.cell 2
                  have f12 := b1_1.frozen 2
                  have c13 := b1_1.cell 3
                  have f13 := b1_1.frozen 3
                  simp at c10 c11 c12 c13
                  obtain ⟨wy, hwy⟩ : ∃ wy, (((wm.setCell ⟨Q, 0, none⟩ (.int .i64 x2)).setCell ⟨Q, 1, none⟩ (.int .i64 z)).setCell ⟨Q, 2, none⟩ (.int .i64 r2)).setCell ⟨Q, 3, none⟩ (.int .i64 b1) = wy := ⟨_, rfl⟩
                  have b0_2 : Blk wy P 59 #[.int .i64 x, .int .i64 z, .int .i64 r1, .int .i64 b1] := hwy ▸ ((((b0_1.far (p := ⟨Q, 0, none⟩) ne01 _).far (p := ⟨Q, 1, none⟩) ne01 _).far (p := ⟨Q, 2, none⟩) ne01 _).far (p := ⟨Q, 3, none⟩) ne01 _)
                  have b1_2 : Blk wy Q 59 #[.int .i64 x2, .int .i64 z, .int .i64 r2, .int .i64 b1] := hwy ▸ ((((b1_1.set_ 0 _).set_ 1 _).set_ 2 _).set_ 3 _)
                  have AX1 : After W9 wy := hwy ▸ ((((AX0.setCell hl1 _).setCell hl1 _).setCell hl1 _).setCell hl1 _)
                  have HP := Lib.hid b0_2
                  have HQ := Lib.hid b1_2
                  have A10 := Lib.hid AX1
                  clear b0_0 b0_1 b0_2 b1_0 b1_1 b1_2 AX AX0 AX1 ne01
                  have n0 := HP.out.cell 0
                  have n1 := HP.out.cell 1
                  have n2 := HP.out.cell 2
                  have n3 := HP.out.cell 3
                  have o0 := HQ.out.cell 0
                  have o1 := HQ.out.cell 1
                  have o2 := HQ.out.cell 2
                  have o3 := HQ.out.cell 3
                  simp at n0 n1 n2 n3 o0 o1 o2 o3
                  have AF := Lib.hid (A4.out.trans (A8.out.trans (Aw.out.trans A10.out)))
                  have hr1 := HR1.out
                  have hr2 := HR2.out
                  have hx2 := HX2.out
                  have hw1 : IntKind.i64.wrap (-r2) = x := by rw [IntKind.wrap_i64]; omega
                  have hw2 : IntKind.i64.wrap (-x2) = r1 := by rw [IntKind.wrap_i64]; omega
                  clear hr1 hr2 hx2
                  go_wp2_with fail
                  go_ret
                  exact ⟨ret_bool (by first | rfl | simp | (simp; omega)), AF.out⟩
                · have n1 : (clear == 1) = false := by simpa using c1
                  have n2 : (clear == 2) = false := by simpa using c2
                  have hmc : mirC clear = clear := by unfold mirC; first | (rw [if_pos (by omega)]; done) | (rw [if_pos (by omega)]; rfl) | (rw [if_neg (by omega)]; done)
                  have hst' : startP (fs.map mirF) clear y = startP fs clear y := by have := startP_mir HSD.out clear y; rwa [hmc] at this
                  have CFm0 := fun (w' : World) (hw' : After w8 w') => place_find (clear := clear) (y := y) (h8.out.after hw') HALLM.out rs' rb' ra' rc rd re (by rw [hst']; exact HZM.out) HXM.out
                  rw [HR2.out, HB1.out] at CFm0
                  have CFm := Lib.hid CFm0
                  clear CFm0
                  have Bm := Lib.hid (B8.out.alloc (.cells #[.int .i64 (3 - side), .int .i64 clear, .int .i64 (-b), .int .i64 (-a), .int .i64 wd, .int .i64 ht, .int .i64 y] 92)).drew
                  have Bv := Lib.hid (Blk.new w8 92 #[.int .i64 (3 - side), .int .i64 clear, .int .i64 (-b), .int .i64 (-a), .int .i64 wd, .int .i64 ht, .int .i64 y]).drew
                  have Aw := Lib.hid ((After.refl w8).alloc (.cells #[.int .i64 (3 - side), .int .i64 clear, .int .i64 (-b), .int .i64 (-a), .int .i64 wd, .int .i64 ht, .int .i64 y] 92)).drew
                  have CF1 := Lib.hid (fun (w' : World) (hw' : After (w8.alloc (.cells #[.int .i64 (3 - side), .int .i64 clear, .int .i64 (-b), .int .i64 (-a), .int .i64 wd, .int .i64 ht, .int .i64 y] 92)).drew w') => CF.out w' (A8.out.trans (Aw.out.trans hw')))
                  have CF2 := Lib.hid (fun (w' : World) (hw' : After (w8.alloc (.cells #[.int .i64 (3 - side), .int .i64 clear, .int .i64 (-b), .int .i64 (-a), .int .i64 wd, .int .i64 ht, .int .i64 y] 92)).drew w') => CFm.out w' (Aw.out.trans hw'))
                  clear hmc hst' CFm
                  go_wp2_with fail
                  go_region
                  go_wp2_with fail
                  generalize hW9 : (w8.alloc (.cells #[.int .i64 (3 - side), .int .i64 clear, .int .i64 (-b), .int .i64 (-a), .int .i64 wd, .int .i64 ht, .int .i64 y] 92)).drew = W9 at Bm Bv Aw CF1 CF2 ⊢
                  clear hW9 k0 k1 k2 k3 k4 k5 k6 j0 j1 j2 j3
                  have k0 := Bm.out.cell 0
                  have k1 := Bm.out.cell 1
                  have k2 := Bm.out.cell 2
                  have k3 := Bm.out.cell 3
                  have k4 := Bm.out.cell 4
                  have k5 := Bm.out.cell 5
                  have k6 := Bm.out.cell 6
                  have l0 := Bv.out.cell 0
                  have l1 := Bv.out.cell 1
                  have l2 := Bv.out.cell 2
                  have l3 := Bv.out.cell 3
                  have l4 := Bv.out.cell 4
                  have l5 := Bv.out.cell 5
                  have l6 := Bv.out.cell 6
                  simp at k0 k1 k2 k3 k4 k5 k6 l0 l1 l2 l3 l4 l5 l6
                  have qk0 := fun n os => cell_grown (w := W9) Bm.out.lt k0 n os
                  have qk1 := fun n os => cell_grown (w := W9) Bm.out.lt k1 n os
                  have qk2 := fun n os => cell_grown (w := W9) Bm.out.lt k2 n os
                  have qk3 := fun n os => cell_grown (w := W9) Bm.out.lt k3 n os
                  have qk4 := fun n os => cell_grown (w := W9) Bm.out.lt k4 n os
                  have qk5 := fun n os => cell_grown (w := W9) Bm.out.lt k5 n os
                  have qk6 := fun n os => cell_grown (w := W9) Bm.out.lt k6 n os
                  have ql0 := fun n os => cell_grown (w := W9) Bv.out.lt l0 n os
                  have ql1 := fun n os => cell_grown (w := W9) Bv.out.lt l1 n os
                  have ql2 := fun n os => cell_grown (w := W9) Bv.out.lt l2 n os
                  have ql3 := fun n os => cell_grown (w := W9) Bv.out.lt l3 n os
                  have ql4 := fun n os => cell_grown (w := W9) Bv.out.lt l4 n os
                  have ql5 := fun n os => cell_grown (w := W9) Bv.out.lt l5 n os
                  have ql6 := fun n os => cell_grown (w := W9) Bv.out.lt l6 n os
                  clear k0 k1 k2 k3 k4 k5 k6 l0 l1 l2 l3 l4 l5 l6
                  go_wp2_with fail
                  refine wp_region_fresh 10 [(8, .cells #[.int .i64 0, .int .i64 0, .int .i64 0, .int .i64 0] 59), (9, .cells #[.int .i64 0, .int .i64 0, .int .i64 0, .int .i64 0] 59)] hmix (by kernel_rfl) (lays_of (by decide) (by kernel_rfl) (lays_cons rfl rfl (fun _ => rfl) (al_rect _ rfl) (lays_cons rfl rfl (fun _ => rfl) (al_rect _ rfl) (fun x hx => by cases hx)))) ?_
                  simp only [List.take_succ_cons, List.take_zero, List.drop_succ_cons, List.drop_zero]
                  iterate 4 (first
                    | refine wpFresh_al rfl ?_
                    | (refine wpFresh_step rfl (fun KK hKK => ?_)
                       go_simp
                       first
                         | (refine hKK _ ?_; clear hKK KK)
                         | (apply Exists.intro
                            refine ⟨fun p => ?_, hKK _ ?_⟩
                            (first
                              | (go_at_call 61; exact law11_of _ _ _ _ _ _ _ _)
                              | (go_at_call 60; exact CF1.out _ (gw_after _ p)))
                            clear hKK KK)))
                  iterate 4 (first
                    | refine wpFresh_al rfl ?_
                    | (refine wpFresh_step rfl (fun KK hKK => ?_)
                       go_simp
                       first
                         | (refine hKK _ ?_; clear hKK KK)
                         | (apply Exists.intro
                            refine ⟨fun p => ?_, hKK _ ?_⟩
                            (first
                              | (go_at_call 61; exact law11_of _ _ _ _ _ _ _ _)
                              | (go_at_call 60; exact CF2.out _ (gw_after _ p)))
                            clear hKK KK)))
                  iterate 2 (refine wpFresh_al rfl ?_)
                  refine wpFresh_nil ?_
                  intro P Q wx hL
                  obtain ⟨AX, ⟨b0x, hl0⟩, ⟨b1x, hl1⟩, ne01⟩ := hL.two (by decide)
                  have b0_0 : Blk wx P 59 #[.int .i64 0, .int .i64 0, .int .i64 0, .int .i64 0] := b0x
                  have b1_0 : Blk wx Q 59 #[.int .i64 0, .int .i64 0, .int .i64 0, .int .i64 0] := b1x
                  clear hL b0x b1x qk0 qk1 qk2 qk3 qk4 qk5 qk6 ql0 ql1 ql2 ql3 ql4 ql5 ql6
                  have c00 := b0_0.cell 0
                  have f00 := b0_0.frozen 0
                  have c01 := b0_0.cell 1
                  have f01 := b0_0.frozen 1
                  have c02 := b0_0.cell 2
                  have f02 := b0_0.frozen 2
                  have c03 := b0_0.cell 3
                  have f03 := b0_0.frozen 3
                  simp at c00 c01 c02 c03
                  obtain ⟨wm, hwm⟩ : ∃ wm, (((wx.setCell ⟨P, 0, none⟩ (.int .i64 x)).setCell ⟨P, 1, none⟩ (.int .i64 z)).setCell ⟨P, 2, none⟩ (.int .i64 r1)).setCell ⟨P, 3, none⟩ (.int .i64 b1) = wm := ⟨_, rfl⟩
                  have b0_1 : Blk wm P 59 #[.int .i64 x, .int .i64 z, .int .i64 r1, .int .i64 b1] := hwm ▸ ((((b0_0.set_ 0 _).set_ 1 _).set_ 2 _).set_ 3 _)
                  have b1_1 : Blk wm Q 59 #[.int .i64 0, .int .i64 0, .int .i64 0, .int .i64 0] := hwm ▸ ((((b1_0.far (p := ⟨P, 0, none⟩) (Ne.symm ne01) _).far (p := ⟨P, 1, none⟩) (Ne.symm ne01) _).far (p := ⟨P, 2, none⟩) (Ne.symm ne01) _).far (p := ⟨P, 3, none⟩) (Ne.symm ne01) _)
                  have AX0 : After W9 wm := hwm ▸ ((((AX.setCell hl0 _).setCell hl0 _).setCell hl0 _).setCell hl0 _)
                  have c10 := b1_1.cell 0
                  have f10 := b1_1.frozen 0
                  have c11 := b1_1.cell 1
                  have f11 := b1_1.frozen 1
                  have c12 := b1_1.cell 2
                  have f12 := b1_1.frozen 2
                  have c13 := b1_1.cell 3
                  have f13 := b1_1.frozen 3
                  simp at c10 c11 c12 c13
                  obtain ⟨wy, hwy⟩ : ∃ wy, (((wm.setCell ⟨Q, 0, none⟩ (.int .i64 x2)).setCell ⟨Q, 1, none⟩ (.int .i64 z)).setCell ⟨Q, 2, none⟩ (.int .i64 r2)).setCell ⟨Q, 3, none⟩ (.int .i64 b1) = wy := ⟨_, rfl⟩
                  have b0_2 : Blk wy P 59 #[.int .i64 x, .int .i64 z, .int .i64 r1, .int .i64 b1] := hwy ▸ ((((b0_1.far (p := ⟨Q, 0, none⟩) ne01 _).far (p := ⟨Q, 1, none⟩) ne01 _).far (p := ⟨Q, 2, none⟩) ne01 _).far (p := ⟨Q, 3, none⟩) ne01 _)
                  have b1_2 : Blk wy Q 59 #[.int .i64 x2, .int .i64 z, .int .i64 r2, .int .i64 b1] := hwy ▸ ((((b1_1.set_ 0 _).set_ 1 _).set_ 2 _).set_ 3 _)
                  have AX1 : After W9 wy := hwy ▸ ((((AX0.setCell hl1 _).setCell hl1 _).setCell hl1 _).setCell hl1 _)
                  have HP := Lib.hid b0_2
                  have HQ := Lib.hid b1_2
                  have A10 := Lib.hid AX1
                  clear b0_0 b0_1 b0_2 b1_0 b1_1 b1_2 AX AX0 AX1 ne01
                  have n0 := HP.out.cell 0
                  have n1 := HP.out.cell 1
                  have n2 := HP.out.cell 2
                  have n3 := HP.out.cell 3
                  have o0 := HQ.out.cell 0
                  have o1 := HQ.out.cell 1
                  have o2 := HQ.out.cell 2
                  have o3 := HQ.out.cell 3
                  simp at n0 n1 n2 n3 o0 o1 o2 o3
                  have AF := Lib.hid (A4.out.trans (A8.out.trans (Aw.out.trans A10.out)))
                  have hr1 := HR1.out
                  have hr2 := HR2.out
                  have hx2 := HX2.out
                  have hw1 : IntKind.i64.wrap (-r2) = x := by rw [IntKind.wrap_i64]; omega
                  have hw2 : IntKind.i64.wrap (-x2) = r1 := by rw [IntKind.wrap_i64]; omega
                  clear hr1 hr2 hx2
                  go_wp2_with fail
                  go_ret
                  exact ⟨ret_bool (by first | rfl | simp | (simp; omega)), AF.out⟩
end Go.Proofs.Ytefbeekjoafijaa
