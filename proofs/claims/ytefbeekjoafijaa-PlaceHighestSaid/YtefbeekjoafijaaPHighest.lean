/- Walk of PlaceHighest. -/
import Derived.Test.YtefbeekjoafijaaGuard11
namespace Go.Proofs.Ytefbeekjoafijaa
open Go.RowKit Go.Sort
set_option linter.unusedVariables false
set_option linter.unusedSimpArgs false
attribute [local irreducible] wpQuiet


set_option maxRecDepth 100000 in
set_option maxHeartbeats 8000000 in
theorem placeHighest {w : World} {v : Value} {fs : List Flt} (h : FlsAt w v fs) (side clear a b wd ht y : Int) : Calls Try.prog 15 #[v, .agg #[.int .i64 side, .int .i64 clear, .int .i64 a, .int .i64 b, .int .i64 wd, .int .i64 ht, .int .i64 y]] w (Ret (.bool true) w) := by
  have hmix := mixed
  have HB0 := Lib.hid (Blk.new w 92 #[.int .i64 side, .int .i64 clear, .int .i64 a, .int .i64 b, .int .i64 wd, .int .i64 ht, .int .i64 y])
  have HA0 := Lib.hid ((After.refl w).alloc (.cells #[.int .i64 side, .int .i64 clear, .int .i64 a, .int .i64 b, .int .i64 wd, .int .i64 ht, .int .i64 y] 92))
  have HV := Lib.hid h
  clear h
  cases hn : nearB fs 20 with
  | false =>
    have HN := Lib.hid hn
    clear hn
    go_enter Try.func15, Try.ntmps15
    go_wp2_with fail
    refine (law11_begin (HV.out.after HA0.out) 20 (by decide)).mono ?_
    rintro e w1 (⟨_, rfl, hw1⟩ | ⟨hh, _⟩)
    · go_wp2_with fail
      refine (law11_speaks _).mono ?_
      rintro e w3 ⟨rfl, hw3⟩
      go_wp2_with fail
      refine (law11_speaks _).mono ?_
      rintro e w4 ⟨rfl, hw4⟩
      go_wp2
      go_ret
      exact ⟨rfl, HA0.out.trans (hw1.trans (hw3.trans hw4))⟩
    · rw [HN.out] at hh; cases hh
  | true =>
    have hall : fs.all smallF = true := by unfold nearB at hn; simp only [Bool.and_eq_true] at hn; exact (all_small hn.1).1
    have hlen : fs.length ≤ 20 := by unfold nearB at hn; simp only [Bool.and_eq_true, decide_eq_true_eq] at hn; have := hn.2; omega
    have HALL := Lib.hid hall
    have HN := Lib.hid hn
    clear hn hall
    cases hr : rightP side clear a b wd ht y with
    | false =>
      have HR := Lib.hid hr
      clear hr
      go_enter Try.func15, Try.ntmps15
      go_wp2_with fail
      refine (law11_begin (HV.out.after HA0.out) 20 (by decide)).mono ?_
      rintro e w1 (⟨hh, _⟩ | ⟨_, S, L, g, cap, fv, rfl, hs, hw1⟩)
      · rw [HN.out] at hh; cases hh
      · have HS1 := Lib.hid hs
        clear hs
        go_wp2_with fail
        refine (law11_speaks _).mono ?_
        rintro e w3 ⟨rfl, hw3⟩
        have A3 := Lib.hid (HA0.out.trans (hw1.trans hw3))
        have B3 := Lib.hid (HB0.out.after (hw1.trans hw3))
        have S3 := Lib.hid (HS1.out.after hw3)
        clear hw1 hw3
        have k0 := B3.out.cell 0
        have k1 := B3.out.cell 1
        have k2 := B3.out.cell 2
        have k3 := B3.out.cell 3
        have k4 := B3.out.cell 4
        have k5 := B3.out.cell 5
        have k6 := B3.out.cell 6
        simp at k0 k1 k2 k3 k4 k5 k6
        go_wp2_with fail
        refine (ref11_right side clear a b wd ht y _).mono ?_
        rintro e w4 ⟨rfl, hw4⟩
        rw [HR.out]
        have A4 := Lib.hid (A3.out.trans hw4)
        have B4 := Lib.hid (B3.out.after hw4)
        have S4 := Lib.hid (S3.out.after hw4)
        clear hw4 k0 k1 k2 k3 k4 k5 k6
        go_wp2_with fail
        refine (law11_speaks _).mono ?_
        rintro e w5 ⟨rfl, hw5⟩
        go_wp2
        go_ret
        exact ⟨rfl, A4.out.trans hw5⟩
    | true =>
      obtain ⟨rs, ra, rb, rc, rd, re, rk0, rk3, rab⟩ := rightP_parts hr
      have HR := Lib.hid hr
      clear hr
      go_enter Try.func15, Try.ntmps15
      go_wp2_with fail
      refine (law11_begin (HV.out.after HA0.out) 20 (by decide)).mono ?_
      rintro e w1 (⟨hh, _⟩ | ⟨_, S, L, g, cap, fv, rfl, hs, hw1⟩)
      · rw [HN.out] at hh; cases hh
      · have HS1 := Lib.hid hs
        clear hs
        go_wp2_with fail
        refine (law11_speaks _).mono ?_
        rintro e w3 ⟨rfl, hw3⟩
        have A3 := Lib.hid (HA0.out.trans (hw1.trans hw3))
        have B3 := Lib.hid (HB0.out.after (hw1.trans hw3))
        have S3 := Lib.hid (HS1.out.after hw3)
        clear hw1 hw3
        have k0 := B3.out.cell 0
        have k1 := B3.out.cell 1
        have k2 := B3.out.cell 2
        have k3 := B3.out.cell 3
        have k4 := B3.out.cell 4
        have k5 := B3.out.cell 5
        have k6 := B3.out.cell 6
        simp at k0 k1 k2 k3 k4 k5 k6
        go_wp2_with fail
        refine (ref11_right side clear a b wd ht y _).mono ?_
        rintro e w4 ⟨rfl, hw4⟩
        rw [HR.out]
        have A4 := Lib.hid (A3.out.trans hw4)
        have B4 := Lib.hid (B3.out.after hw4)
        have S4 := Lib.hid (S3.out.after hw4)
        clear hw4 k0 k1 k2 k3 k4 k5 k6
        obtain ⟨z, hz⟩ : ∃ z, firstOf fs ht (fitsP side a b wd) (startP fs clear y) = z := ⟨_, rfl⟩
        obtain ⟨x, hx⟩ : ∃ x, leftP side a b wd (bandAt fs z ht) = x := ⟨_, rfl⟩
        obtain ⟨z1, z2, z3⟩ := findP_at (clear := clear) (ht := ht) HALL.out rs ra rb rc re
        have zr := findP_range HALL.out ht clear (fitsP side a b wd) re
        have xr0 := leftP_range (ht := ht) (z := z) HALL.out rs ra rb rc
        rw [hz] at z1 z2 z3 zr
        have xr := xr0 zr.1
        rw [hx] at xr
        have zr' := zr
        have A0 := ra
        have B0 := rb
        have C0 := rc
        have D0 := rd
        have E0 := re
        unfold Far at zr'
        unfold L48 at A0 B0 C0 D0 E0
        obtain ⟨st, hst⟩ : ∃ st, startP fs clear y = st := ⟨_, rfl⟩
        have str := startP_range HALL.out clear re
        rw [hst] at str z1 z3
        have CF := Lib.hid (fun (w' : World) (hw' : After w4 w') => place_find (clear := clear) (S4.out.after hw') HALL.out rs ra rb rc rd re hz hx)
        have Cs := fun (w' : World) (hw' : After w4 w') => place_start (S4.out.after hw') side clear a b wd ht y
        rw [hst] at Cs
        have CS := Lib.hid Cs
        have CA := Lib.hid (fun (w' : World) (hw' : After w4 w') => ref11_at (clear := clear) (y := y) (r := x) ((HV.out.after A4.out).after hw') HALL.out rs ra rb rc rd z (by unfold Far; omega) z2 (by rw [if_pos rfl]; exact hx))
        have CB := Lib.hid (fun (k : Int) (hk1 : st ≤ k) (hk2 : k < z) (w' : World) (hw' : After w4 w') => ref11_at (clear := clear) (y := y) ((HV.out.after A4.out).after hw') HALL.out rs ra rb rc rd k (by unfold Far; omega) (z3 k hk1 hk2) rfl)
        clear hz hx z2 z3 xr0 hst Cs rs
        have k0 := B4.out.cell 0
        have k1 := B4.out.cell 1
        have k2 := B4.out.cell 2
        have k3 := B4.out.cell 3
        have k4 := B4.out.cell 4
        have k5 := B4.out.cell 5
        have k6 := B4.out.cell 6
        simp at k0 k1 k2 k3 k4 k5 k6
        go_wp2_with fail
        refine (law11_of side clear a b wd ht y _).mono ?_
        rintro e w5 ⟨rfl, hw5⟩
        clear k0 k1 k2 k3 k4 k5 k6
        go_wp2_with fail
        refine (CF.out _ hw5).mono ?_
        rintro e w6 ⟨rfl, hw6⟩
        have HR7 := Lib.hid (Blk.new w6 59 #[.int .i64 x, .int .i64 z, .int .i64 (x + wd), .int .i64 (z + ht)])
        have A7 := Lib.hid (show After w4 (w6.alloc (.cells #[.int .i64 x, .int .i64 z, .int .i64 (x + wd), .int .i64 (z + ht)] 59)) from (hw5.trans hw6).alloc _)
        have B7 := Lib.hid (B4.out.after A7.out)
        clear hw5 hw6
        have k0 := B7.out.cell 0
        have k1 := B7.out.cell 1
        have k2 := B7.out.cell 2
        have k3 := B7.out.cell 3
        have k4 := B7.out.cell 4
        have k5 := B7.out.cell 5
        have k6 := B7.out.cell 6
        simp at k0 k1 k2 k3 k4 k5 k6
        go_wp2_with fail
        refine (law11_of side clear a b wd ht y _).mono ?_
        rintro e w8 ⟨rfl, hw8⟩
        clear k0 k1 k2 k3 k4 k5 k6
        go_wp2_with fail
        refine (CS.out _ (A7.out.trans hw8)).mono ?_
        rintro e w9 ⟨rfl, hw9⟩
        have A9 := Lib.hid (A7.out.trans (hw8.trans hw9))
        have B9 := Lib.hid (B4.out.after A9.out)
        have R9 := Lib.hid (HR7.out.after (hw8.trans hw9))
        clear hw8 hw9
        have k0 := B9.out.cell 0
        have k1 := B9.out.cell 1
        have k2 := B9.out.cell 2
        have k3 := B9.out.cell 3
        have k4 := B9.out.cell 4
        have k5 := B9.out.cell 5
        have k6 := B9.out.cell 6
        simp at k0 k1 k2 k3 k4 k5 k6
        have n0 := R9.out.cell 0
        have n1 := R9.out.cell 1
        have n2 := R9.out.cell 2
        have n3 := R9.out.cell 3
        simp at n0 n1 n2 n3
        have hwx : IntKind.i64.wrap (x + wd - x) = wd := by rw [IntKind.wrap_i64]; omega
        have hwz : IntKind.i64.wrap (z + ht - z) = ht := by rw [IntKind.wrap_i64]; omega
        go_wp2_with fail
        refine (CA.out _ A9.out).mono ?_
        rintro e w10 ⟨rfl, hw10⟩
        clear k0 k1 k2 k3 k4 k5 k6 n0 n1 n2 n3
        have HA8 := Lib.hid (A9.out.trans hw10)
        have HR8 := Lib.hid (R9.out.after hw10)
        have HB8 := Lib.hid (B4.out.after HA8.out)
        clear hw10
        have m0 := HR8.out.cell 0
        have m1 := HR8.out.cell 1
        simp at m0 m1
        have hwr : IntKind.i64.wrap (st + 200) = st + 200 := by rw [IntKind.wrap_i64]; omega
        go_wp2_with fail
        go_loopw [10] (fun v wr => ∃ k : Int, v = .int .i64 k ∧ st ≤ k ∧ k ≤ z ∧ After w10 wr) (fun v _ => (z - intOf v).toNat)
        case atStart => exact ⟨st, rfl, Int.le_refl _, z1, After.refl _⟩
        case round =>
          obtain ⟨k, rfl, hk, hk2, hwr2⟩ := hrel
          have HW := Lib.hid hwr2
          clear m0 m1 hwr2
          have HB9 := Lib.hid (HB8.out.after HW.out)
          have HR9 := Lib.hid (HR8.out.after HW.out)
          have m1 := HR9.out.cell 1
          simp at m1
          have k0 := HB9.out.cell 0
          have k1 := HB9.out.cell 1
          have k2 := HB9.out.cell 2
          have k3 := HB9.out.cell 3
          have k4 := HB9.out.cell 4
          have k5 := HB9.out.cell 5
          have k6 := HB9.out.cell 6
          simp at k0 k1 k2 k3 k4 k5 k6
          by_cases hm : st + 200 < z
          · by_cases hlt : k < st + 200
            · have hkz : k < z := by omega
              go_wp2_with fail
              refine (CB.out k hk hkz _ (HA8.out.trans HW.out)).mono ?_
              rintro e w9 ⟨rfl, hw9⟩
              have HW9 := Lib.hid (HW.out.trans hw9)
              clear hw9 k0 k1 k2 k3 k4 k5 k6 m1
              have hwk : IntKind.i64.wrap (k + 1) = k + 1 := by rw [IntKind.wrap_i64]; omega
              go_wp2_with fail
              go_roundw
              case rel => exact ⟨k + 1, rfl, by omega, by omega, HW9.out⟩
              case measure => simp [intOf]; omega
            · go_wp2_with fail
              go_ret
              exact ⟨rfl, A4.out.trans (HA8.out.trans HW.out)⟩
          · by_cases hlt : k < z
            · have hkz : k < z := by omega
              go_wp2_with fail
              refine (CB.out k hk hkz _ (HA8.out.trans HW.out)).mono ?_
              rintro e w9 ⟨rfl, hw9⟩
              have HW9 := Lib.hid (HW.out.trans hw9)
              clear hw9 k0 k1 k2 k3 k4 k5 k6 m1
              have hwk : IntKind.i64.wrap (k + 1) = k + 1 := by rw [IntKind.wrap_i64]; omega
              go_wp2_with fail
              go_roundw
              case rel => exact ⟨k + 1, rfl, by omega, by omega, HW9.out⟩
              case measure => simp [intOf]; omega
            · go_wp2_with fail
              go_ret
              exact ⟨rfl, A4.out.trans (HA8.out.trans HW.out)⟩
end Go.Proofs.Ytefbeekjoafijaa
