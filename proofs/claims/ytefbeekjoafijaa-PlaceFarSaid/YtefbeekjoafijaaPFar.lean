/- Walk of PlaceFar. -/
import Derived.Test.YtefbeekjoafijaaGuard11
namespace Go.Proofs.Ytefbeekjoafijaa
open Go.RowKit Go.Sort
set_option linter.unusedVariables false
set_option linter.unusedSimpArgs false
attribute [local irreducible] wpQuiet


set_option maxRecDepth 100000 in
set_option maxHeartbeats 8000000 in
theorem placeFar {w : World} {v : Value} {fs : List Flt} (h : FlsAt w v fs) (side clear a b wd ht y : Int) : Calls Try.prog 16 #[v, .agg #[.int .i64 side, .int .i64 clear, .int .i64 a, .int .i64 b, .int .i64 wd, .int .i64 ht, .int .i64 y]] w (Ret (.bool true) w) := by
  have hmix := mixed
  have HB0 := Lib.hid (Blk.new w 92 #[.int .i64 side, .int .i64 clear, .int .i64 a, .int .i64 b, .int .i64 wd, .int .i64 ht, .int .i64 y])
  have HA0 := Lib.hid ((After.refl w).alloc (.cells #[.int .i64 side, .int .i64 clear, .int .i64 a, .int .i64 b, .int .i64 wd, .int .i64 ht, .int .i64 y] 92))
  have HV := Lib.hid h
  clear h
  cases hn : nearB fs 30 with
  | false =>
    have HN := Lib.hid hn
    clear hn
    go_enter Try.func16, Try.ntmps16
    go_wp2_with fail
    refine (law11_begin (HV.out.after HA0.out) 30 (by decide)).mono ?_
    rintro e w1 (⟨_, rfl, hw1⟩ | ⟨hh, _⟩)
    · go_wp2_with fail
      refine (law11_speaks _).mono ?_
      rintro e w3 ⟨rfl, hw3⟩
      go_wp2_with fail
      refine (law11_speaks _).mono ?_
      rintro e w4 ⟨rfl, hw4⟩
      go_wp2
      go_ret
      exact ⟨rfl, HA0.out.trans (hw1.trans (hw3.trans hw4))⟩
    · rw [HN.out] at hh; cases hh
  | true =>
    have hall : fs.all smallF = true := by unfold nearB at hn; simp only [Bool.and_eq_true] at hn; exact (all_small hn.1).1
    have hlen : fs.length ≤ 30 := by unfold nearB at hn; simp only [Bool.and_eq_true, decide_eq_true_eq] at hn; have := hn.2; omega
    have HALL := Lib.hid hall
    have HN := Lib.hid hn
    clear hn hall
    cases hr : rightP side clear a b wd ht y with
    | false =>
      have HR := Lib.hid hr
      clear hr
      go_enter Try.func16, Try.ntmps16
      go_wp2_with fail
      refine (law11_begin (HV.out.after HA0.out) 30 (by decide)).mono ?_
      rintro e w1 (⟨hh, _⟩ | ⟨_, S, L, g, cap, fv, rfl, hs, hw1⟩)
      · rw [HN.out] at hh; cases hh
      · have HS1 := Lib.hid hs
        clear hs
        go_wp2_with fail
        refine (law11_speaks _).mono ?_
        rintro e w3 ⟨rfl, hw3⟩
        have A3 := Lib.hid (HA0.out.trans (hw1.trans hw3))
        have B3 := Lib.hid (HB0.out.after (hw1.trans hw3))
        have S3 := Lib.hid (HS1.out.after hw3)
        clear hw1 hw3
        have k0 := B3.out.cell 0
        have k1 := B3.out.cell 1
        have k2 := B3.out.cell 2
        have k3 := B3.out.cell 3
        have k4 := B3.out.cell 4
        have k5 := B3.out.cell 5
        have k6 := B3.out.cell 6
        simp at k0 k1 k2 k3 k4 k5 k6
        go_wp2_with fail
        refine (ref11_right side clear a b wd ht y _).mono ?_
        rintro e w4 ⟨rfl, hw4⟩
        rw [HR.out]
        have A4 := Lib.hid (A3.out.trans hw4)
        have B4 := Lib.hid (B3.out.after hw4)
        have S4 := Lib.hid (S3.out.after hw4)
        clear hw4 k0 k1 k2 k3 k4 k5 k6
        go_wp2_with fail
        refine (law11_speaks _).mono ?_
        rintro e w5 ⟨rfl, hw5⟩
        go_wp2
        go_ret
        exact ⟨rfl, A4.out.trans hw5⟩
    | true =>
      obtain ⟨rs, ra, rb, rc, rd, re, rk0, rk3, rab⟩ := rightP_parts hr
      have HR := Lib.hid hr
      clear hr
      go_enter Try.func16, Try.ntmps16
      go_wp2_with fail
      refine (law11_begin (HV.out.after HA0.out) 30 (by decide)).mono ?_
      rintro e w1 (⟨hh, _⟩ | ⟨_, S, L, g, cap, fv, rfl, hs, hw1⟩)
      · rw [HN.out] at hh; cases hh
      · have HS1 := Lib.hid hs
        clear hs
        go_wp2_with fail
        refine (law11_speaks _).mono ?_
        rintro e w3 ⟨rfl, hw3⟩
        have A3 := Lib.hid (HA0.out.trans (hw1.trans hw3))
        have B3 := Lib.hid (HB0.out.after (hw1.trans hw3))
        have S3 := Lib.hid (HS1.out.after hw3)
        clear hw1 hw3
        have k0 := B3.out.cell 0
        have k1 := B3.out.cell 1
        have k2 := B3.out.cell 2
        have k3 := B3.out.cell 3
        have k4 := B3.out.cell 4
        have k5 := B3.out.cell 5
        have k6 := B3.out.cell 6
        simp at k0 k1 k2 k3 k4 k5 k6
        go_wp2_with fail
        refine (ref11_right side clear a b wd ht y _).mono ?_
        rintro e w4 ⟨rfl, hw4⟩
        rw [HR.out]
        have A4 := Lib.hid (A3.out.trans hw4)
        have B4 := Lib.hid (B3.out.after hw4)
        have S4 := Lib.hid (S3.out.after hw4)
        clear hw4 k0 k1 k2 k3 k4 k5 k6
        obtain ⟨z, hz⟩ : ∃ z, firstOf fs ht (fitsP side a b wd) (startP fs clear y) = z := ⟨_, rfl⟩
        obtain ⟨x, hx⟩ : ∃ x, leftP side a b wd (bandAt fs z ht) = x := ⟨_, rfl⟩
        obtain ⟨z1, z2, z3⟩ := findP_at (clear := clear) (ht := ht) HALL.out rs ra rb rc re
        have zr := findP_range HALL.out ht clear (fitsP side a b wd) re
        have xr0 := leftP_range (ht := ht) (z := z) HALL.out rs ra rb rc
        rw [hz] at z1 z2 z3 zr
        have xr := xr0 zr.1
        rw [hx] at xr
        have zr' := zr
        have A0 := ra
        have B0 := rb
        have C0 := rc
        have D0 := rd
        have E0 := re
        unfold Far at zr'
        unfold L48 at A0 B0 C0 D0 E0
        obtain ⟨p, hp⟩ : ∃ p, (bandAt fs z ht).1 = p := ⟨_, rfl⟩
        obtain ⟨q, hq⟩ : ∃ q, (bandAt fs z ht).2 = q := ⟨_, rfl⟩
        have hpq : bandAt fs z ht = (p, q) := Prod.ext hp hq
        have hi1a : 1 ≤ hi1 ht := by unfold hi1; omega
        have hi1b : hi1 ht ≤ 281474976710656 := by unfold hi1; omega
        have bnr := band_nr HALL.out ht zr.1
        have CF := Lib.hid (fun (w' : World) (hw' : After w4 w') => place_find (clear := clear) (S4.out.after hw') HALL.out rs ra rb rc rd re hz hx)
        have Cb := fun (w' : World) (hw' : After w4 w') => space_bounds (S4.out.after hw') z (z + hi1 ht) ⟨by omega, by omega⟩ ⟨by omega, by omega⟩
        rw [show bandOf fs z (z + hi1 ht) = (p, q) from hpq] at Cb
        have CB := Lib.hid Cb
        rw [hpq] at z2 hx bnr
        unfold Far at bnr
        dsimp only at bnr
        clear Cb hz hp hq hpq z3 z1 xr0
        have k0 := B4.out.cell 0
        have k1 := B4.out.cell 1
        have k2 := B4.out.cell 2
        have k3 := B4.out.cell 3
        have k4 := B4.out.cell 4
        have k5 := B4.out.cell 5
        have k6 := B4.out.cell 6
        simp at k0 k1 k2 k3 k4 k5 k6
        go_wp2_with fail
        refine (law11_of side clear a b wd ht y _).mono ?_
        rintro e w5 ⟨rfl, hw5⟩
        clear k0 k1 k2 k3 k4 k5 k6
        go_wp2_with fail
        refine (CF.out _ hw5).mono ?_
        rintro e w6 ⟨rfl, hw6⟩
        have HR7 := Lib.hid (Blk.new w6 59 #[.int .i64 x, .int .i64 z, .int .i64 (x + wd), .int .i64 (z + ht)])
        have A7 := Lib.hid (show After w4 (w6.alloc (.cells #[.int .i64 x, .int .i64 z, .int .i64 (x + wd), .int .i64 (z + ht)] 59)) from (hw5.trans hw6).alloc _)
        have B7 := Lib.hid (B4.out.after A7.out)
        clear hw5 hw6
        have k0 := B7.out.cell 0
        have k1 := B7.out.cell 1
        have k2 := B7.out.cell 2
        have k3 := B7.out.cell 3
        have k4 := B7.out.cell 4
        have k5 := B7.out.cell 5
        have k6 := B7.out.cell 6
        simp at k0 k1 k2 k3 k4 k5 k6
        have n1 := HR7.out.cell 1
        simp at n1
        go_wp2_with fail
        refine (space_rows z ht _ (by omega) (by omega) (by omega) (by omega)).mono ?_
        rintro e w8 ⟨rfl, hw8⟩
        clear k0 k1 k2 k3 k4 k5 k6 n1
        go_wp2_with fail
        refine (CB.out _ (A7.out.trans hw8)).mono ?_
        rintro e w9 ⟨rfl, hw9⟩
        have W10 := Lib.hid (Blk.new w9 34 #[.int .i64 p, .int .i64 q])
        have A10 := Lib.hid (show After w4 (w9.alloc (.cells #[.int .i64 p, .int .i64 q] 34)) from (A7.out.trans (hw8.trans hw9)).alloc _)
        have R10 := Lib.hid (HR7.out.after ((hw8.trans hw9).alloc (.cells #[.int .i64 p, .int .i64 q] 34)))
        have B10 := Lib.hid (B4.out.after A10.out)
        clear hw8 hw9
        have k0 := B10.out.cell 0
        have k1 := B10.out.cell 1
        have k2 := B10.out.cell 2
        have k3 := B10.out.cell 3
        have k4 := B10.out.cell 4
        have k5 := B10.out.cell 5
        have k6 := B10.out.cell 6
        simp at k0 k1 k2 k3 k4 k5 k6
        have n0 := R10.out.cell 0
        have n1 := R10.out.cell 1
        have n2 := R10.out.cell 2
        have n3 := R10.out.cell 3
        have m0 := W10.out.cell 0
        have m1 := W10.out.cell 1
        simp at n0 n1 n2 n3 m0 m1
        have AF := Lib.hid (A4.out.trans A10.out)
        have hwab : IntKind.i64.wrap (b - a) = b - a := by rw [IntKind.wrap_i64]; omega
        have hwx : IntKind.i64.wrap (x + wd) = x + wd := by rw [IntKind.wrap_i64]; omega
        rcases rs with rfl | rfl
        · rw [fitsP_iff1] at z2
          have hx' : max a p = x := hx
          dsimp only at z2
          by_cases ap : a < p
          · have hxp : x = p := by omega
            subst hxp
            by_cases qb : q < b
            · have h1 : x + wd ≤ q := by omega
              go_wp2_with fail
              go_ret
              exact ⟨ret_bool (by simp), AF.out⟩
            · have h1 : x + wd ≤ b := by omega
              go_wp2_with fail
              go_ret
              exact ⟨ret_bool (by simp), AF.out⟩
          · have hxa : x = a := by omega
            subst hxa
            by_cases qb : q < b
            · have h1 : x + wd ≤ q := by omega
              go_wp2_with fail
              go_ret
              exact ⟨ret_bool (by simp), AF.out⟩
            · by_cases h1 : x + wd ≤ b
              · go_wp2_with fail
                go_ret
                exact ⟨ret_bool (by simp), AF.out⟩
              · have h2 : b - x < wd := by omega
                go_wp2_with fail
                go_ret
                exact ⟨ret_bool (by simp [h2]), AF.out⟩
        · rw [fitsP_iff2] at z2
          have hx' : min b q - wd = x := hx
          dsimp only at z2
          by_cases qb : q < b
          · have hxq : x + wd = q := by omega
            rw [hxq] at n2
            have hxa : max a p ≤ x := by omega
            by_cases ap : a < p
            · have h1 : p ≤ x := by omega
              go_wp2_with fail
              go_ret
              exact ⟨ret_bool (by simp), AF.out⟩
            · have h1 : a ≤ x := by omega
              go_wp2_with fail
              go_ret
              exact ⟨ret_bool (by simp), AF.out⟩
          · have hxb : x + wd = b := by omega
            rw [hxb] at n2
            by_cases ap : a < p
            · have h1 : p ≤ x := by omega
              go_wp2_with fail
              go_ret
              exact ⟨ret_bool (by simp), AF.out⟩
            · by_cases h1 : a ≤ x
              · go_wp2_with fail
                go_ret
                exact ⟨ret_bool (by simp), AF.out⟩
              · have h2 : b - a < wd := by omega
                go_wp2_with fail
                go_ret
                exact ⟨ret_bool (by simp [h2]), AF.out⟩
end Go.Proofs.Ytefbeekjoafijaa
