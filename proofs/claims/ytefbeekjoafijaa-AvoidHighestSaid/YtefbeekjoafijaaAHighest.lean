/- Walk of AvoidHighest. -/
import Derived.Test.YtefbeekjoafijaaGuard12
namespace Go.Proofs.Ytefbeekjoafijaa
open Go.RowKit Go.Sort
attribute [local irreducible] wpQuiet


set_option maxRecDepth 100000 in
set_option maxHeartbeats 8000000 in
theorem avoidHighest {w : World} {v : Value} {fs : List Flt} (h : FlsAt w v fs) (a b wd ht y : Int) : Calls Try.prog 6 #[v, .agg #[.int .i64 a, .int .i64 b, .int .i64 wd, .int .i64 ht, .int .i64 y]] w (Ret (.bool true) w) := by
  have hmix := mixed
  have HB0 := Lib.hid (Blk.new w 55 #[.int .i64 a, .int .i64 b, .int .i64 wd, .int .i64 ht, .int .i64 y])
  have HA0 := Lib.hid ((After.refl w).alloc (.cells #[.int .i64 a, .int .i64 b, .int .i64 wd, .int .i64 ht, .int .i64 y] 55))
  have HV := Lib.hid h
  clear h
  cases hn : nearB fs 20 with
  | false =>
    have HN := Lib.hid hn
    clear hn
    go_enter Try.func6, Try.ntmps6
    go_wp2_with fail
    refine (law12_begin (HV.out.after HA0.out) 20 (by decide)).mono ?_
    rintro e w1 (⟨_, rfl, hw1⟩ | ⟨hh, _⟩)
    · go_wp2_with fail
      refine (law12_speaks _).mono ?_
      rintro e w3 ⟨rfl, hw3⟩
      go_wp2_with fail
      refine (law12_speaks _).mono ?_
      rintro e w4 ⟨rfl, hw4⟩
      go_wp2
      go_ret
      exact ⟨rfl, HA0.out.trans (hw1.trans (hw3.trans hw4))⟩
    · rw [HN.out] at hh; cases hh
  | true =>
    have hall : fs.all smallF = true := by unfold nearB at hn; simp only [Bool.and_eq_true] at hn; exact (all_small hn.1).1
    have hlen : fs.length ≤ 20 := by unfold nearB at hn; simp only [Bool.and_eq_true, decide_eq_true_eq] at hn; have := hn.2; omega
    have HALL := Lib.hid hall
    have HN := Lib.hid hn
    clear hn hall
    cases hr : rightA a b wd ht y with
    | false =>
      have HR := Lib.hid hr
      clear hr
      go_enter Try.func6, Try.ntmps6
      go_wp2_with fail
      refine (law12_begin (HV.out.after HA0.out) 20 (by decide)).mono ?_
      rintro e w1 (⟨hh, _⟩ | ⟨_, S, L, g, cap, fv, rfl, hs, hw1⟩)
      · rw [HN.out] at hh; cases hh
      · have HS1 := Lib.hid hs
        clear hs
        go_wp2_with fail
        refine (law12_speaks _).mono ?_
        rintro e w3 ⟨rfl, hw3⟩
        have A3 := Lib.hid (HA0.out.trans (hw1.trans hw3))
        have B3 := Lib.hid (HB0.out.after (hw1.trans hw3))
        have S3 := Lib.hid (HS1.out.after hw3)
        clear hw1 hw3
        have k0 := B3.out.cell 0
        have k1 := B3.out.cell 1
        have k2 := B3.out.cell 2
        have k3 := B3.out.cell 3
        have k4 := B3.out.cell 4
        simp at k0 k1 k2 k3 k4
        go_wp2_with fail
        refine (ref12_right a b wd ht y _).mono ?_
        rintro e w4 ⟨rfl, hw4⟩
        rw [HR.out]
        have A4 := Lib.hid (A3.out.trans hw4)
        have B4 := Lib.hid (B3.out.after hw4)
        have S4 := Lib.hid (S3.out.after hw4)
        clear hw4 k0 k1 k2 k3 k4
        go_wp2_with fail
        refine (law12_speaks _).mono ?_
        rintro e w5 ⟨rfl, hw5⟩
        go_wp2
        go_ret
        exact ⟨rfl, A4.out.trans hw5⟩
    | true =>
      obtain ⟨ra, rb, rc, rd, re, r0⟩ := rightA_parts hr
      have HR := Lib.hid hr
      clear hr
      go_enter Try.func6, Try.ntmps6
      go_wp2_with fail
      refine (law12_begin (HV.out.after HA0.out) 20 (by decide)).mono ?_
      rintro e w1 (⟨hh, _⟩ | ⟨_, S, L, g, cap, fv, rfl, hs, hw1⟩)
      · rw [HN.out] at hh; cases hh
      · have HS1 := Lib.hid hs
        clear hs
        go_wp2_with fail
        refine (law12_speaks _).mono ?_
        rintro e w3 ⟨rfl, hw3⟩
        have A3 := Lib.hid (HA0.out.trans (hw1.trans hw3))
        have B3 := Lib.hid (HB0.out.after (hw1.trans hw3))
        have S3 := Lib.hid (HS1.out.after hw3)
        clear hw1 hw3
        have k0 := B3.out.cell 0
        have k1 := B3.out.cell 1
        have k2 := B3.out.cell 2
        have k3 := B3.out.cell 3
        have k4 := B3.out.cell 4
        simp at k0 k1 k2 k3 k4
        go_wp2_with fail
        refine (ref12_right a b wd ht y _).mono ?_
        rintro e w4 ⟨rfl, hw4⟩
        rw [HR.out]
        have A4 := Lib.hid (A3.out.trans hw4)
        have B4 := Lib.hid (B3.out.after hw4)
        have S4 := Lib.hid (S3.out.after hw4)
        clear hw4 k0 k1 k2 k3 k4
        obtain ⟨z, hz⟩ : ∃ z, firstOf fs ht (fitsQ a b wd) y = z := ⟨_, rfl⟩
        obtain ⟨x, hx⟩ : ∃ x, max a (bandAt fs z ht).1 = x := ⟨_, rfl⟩
        obtain ⟨z1, z2, z3⟩ := find_at fs ra rb rc re (ht := ht)
        have zr := find_range HALL.out ht (fitsQ a b wd) re
        rw [hz] at z1 z2 z3 zr
        have yr := far_of re
        unfold Far at zr yr
        have CF := Lib.hid (fun (w' : World) (hw' : After w4 w') => find_c (S4.out.after hw') HALL.out ra rb rc rd re hz hx)
        have CA := Lib.hid (fun (w' : World) (hw' : After w4 w') => at_c ((HV.out.after A4.out).after hw') HALL.out ra rb rc rd (fr := y) (r := x) z (by unfold Far; omega) z2 (by rw [if_pos rfl]; exact hx))
        have CB := Lib.hid (fun (k : Int) (hk1 : y ≤ k) (hk2 : k < z) (w' : World) (hw' : After w4 w') => at_c ((HV.out.after A4.out).after hw') HALL.out ra rb rc rd (fr := y) k (by unfold Far; omega) (z3 k hk1 hk2) rfl)
        clear hz hx z2 z3
        have k0 := B4.out.cell 0
        have k1 := B4.out.cell 1
        have k2 := B4.out.cell 2
        have k3 := B4.out.cell 3
        have k4 := B4.out.cell 4
        simp at k0 k1 k2 k3 k4
        go_wp2_with fail
        refine (law12_of a b wd ht y _).mono ?_
        rintro e w5 ⟨rfl, hw5⟩
        clear k0 k1 k2 k3 k4
        go_wp2_with fail
        refine (CF.out _ hw5).mono ?_
        rintro e w6 ⟨rfl, hw6⟩
        have r7 := Blk.new w6 59 #[.int .i64 x, .int .i64 z, .int .i64 (x + wd), .int .i64 (z + ht)]
        have A7 : After w4 (w6.alloc (.cells #[.int .i64 x, .int .i64 z, .int .i64 (x + wd), .int .i64 (z + ht)] 59)) := (hw5.trans hw6).alloc _
        have k0 := (B4.out.after A7).cell 0
        have k1 := (B4.out.after A7).cell 1
        have k2 := (B4.out.after A7).cell 2
        have k3 := (B4.out.after A7).cell 3
        have k4 := (B4.out.after A7).cell 4
        simp at k0 k1 k2 k3 k4
        have HA7 := Lib.hid A7
        have HR7 := Lib.hid r7
        clear r7 A7
        go_wp2_with fail
        refine (CA.out _ HA7.out).mono ?_
        rintro e w8 ⟨rfl, hw8⟩
        clear k0 k1 k2 k3 k4
        have HA8 := Lib.hid (HA7.out.trans hw8)
        have HR8 := Lib.hid (HR7.out.after hw8)
        have HB8 := Lib.hid (B4.out.after (HA7.out.trans hw8))
        clear hw8 hw5 hw6
        have m0 := HR8.out.cell 0
        have m1 := HR8.out.cell 1
        have k4 := HB8.out.cell 4
        simp at m0 m1 k4
        have hwr : IntKind.i64.wrap (y + 200) = y + 200 := by rw [IntKind.wrap_i64]; omega
        go_wp2_with fail
        go_loopw [9] (fun v wr => ∃ k : Int, v = .int .i64 k ∧ y ≤ k ∧ k ≤ z ∧ After w8 wr) (fun v _ => (z - intOf v).toNat)
        case atStart => exact ⟨y, rfl, Int.le_refl _, z1, After.refl _⟩
        case round =>
          obtain ⟨k, rfl, hk, hk2, hwr2⟩ := hrel
          have HW := Lib.hid hwr2
          clear m0 m1 k4 hwr2
          have HB9 := Lib.hid (HB8.out.after HW.out)
          have HR9 := Lib.hid (HR8.out.after HW.out)
          have m1 := HR9.out.cell 1
          simp at m1
          have k0 := HB9.out.cell 0
          have k1 := HB9.out.cell 1
          have k2 := HB9.out.cell 2
          have k3 := HB9.out.cell 3
          have k4 := HB9.out.cell 4
          simp at k0 k1 k2 k3 k4
          by_cases hm : y + 200 < z
          · by_cases hlt : k < y + 200
            · have hkz : k < z := by omega
              go_wp2_with fail
              refine (CB.out k hk hkz _ (HA8.out.trans HW.out)).mono ?_
              rintro e w9 ⟨rfl, hw9⟩
              have HW9 := Lib.hid (HW.out.trans hw9)
              clear hw9 k0 k1 k2 k3 k4 m1
              have hwk : IntKind.i64.wrap (k + 1) = k + 1 := by rw [IntKind.wrap_i64]; omega
              go_wp2_with fail
              go_roundw
              case rel => exact ⟨k + 1, rfl, by omega, by omega, HW9.out⟩
              case measure => simp [intOf]; omega
            · go_wp2_with fail
              go_ret
              exact ⟨rfl, A4.out.trans (HA8.out.trans HW.out)⟩
          · by_cases hlt : k < z
            · have hkz : k < z := by omega
              go_wp2_with fail
              refine (CB.out k hk hkz _ (HA8.out.trans HW.out)).mono ?_
              rintro e w9 ⟨rfl, hw9⟩
              have HW9 := Lib.hid (HW.out.trans hw9)
              clear hw9 k0 k1 k2 k3 k4 m1
              have hwk : IntKind.i64.wrap (k + 1) = k + 1 := by rw [IntKind.wrap_i64]; omega
              go_wp2_with fail
              go_roundw
              case rel => exact ⟨k + 1, rfl, by omega, by omega, HW9.out⟩
              case measure => simp [intOf]; omega
            · go_wp2_with fail
              go_ret
              exact ⟨rfl, A4.out.trans (HA8.out.trans HW.out)⟩
end Go.Proofs.Ytefbeekjoafijaa
