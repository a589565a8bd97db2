/- Walk of AvoidApart. -/
import Derived.Test.YtefbeekjoafijaaGuard12
import Derived.Test.YtefbeekjoafijaaMeet
namespace Go.Proofs.Ytefbeekjoafijaa
open Go.RowKit Go.Sort
set_option linter.unusedVariables false
set_option linter.unusedSimpArgs false
attribute [local irreducible] wpQuiet

theorem nearB_side {fs : List Flt} {most : Int} (h : nearB fs most = true) : fs.all sideOk = true := by
  unfold nearB at h
  simp only [Bool.and_eq_true] at h
  exact (all_small h.1).2

/-- no full float meets a box that stands where it fits -/
theorem apart_fl {fs : List Flt} {a b wd ht z x : Int} (hz : -Far ≤ z) (hq : fitsQ a b wd (bandAt fs z ht) = true) (hx : max a (bandAt fs z ht).1 = x) {f : Flt} (hf : f ∈ fs) (hs : sideOk f = true) :
    fullB (max f.l x) (max f.t z) (min f.r (x + wd)) (min f.b (z + ht)) = false := by
  have hb := bandAt_spec fs ht hz
  have hxw : x + wd ≤ (bandAt fs z ht).2 := by
    unfold fitsQ at hq
    simp only [Bool.or_eq_true, decide_eq_true_eq] at hq
    omega
  unfold fullB
  rw [decide_eq_false_iff_not]
  rintro ⟨h1, h2⟩
  have hc : counts f = true := by
    unfold counts
    unfold sideOk at hs
    simp only [decide_eq_true_eq] at hs ⊢
    exact ⟨by omega, by omega, hs⟩
  have h3 : z + ht ≤ z + hi1 ht := by unfold hi1; omega
  have hin := hb.all (max f.t z) (by omega) (by omega)
  rcases counts_side hc with hs | hs
  · have := lft_ge hf hc (y := max f.t z) (by omega) (by omega) hs
    omega
  · have := rgt_le hf hc (y := max f.t z) (by omega) (by omega) hs
    omega

theorem apart_end {fs : List Flt} {a b wd ht z x : Int} (hq : fitsQ a b wd (bandAt fs z ht) = true) (hx : max a (bandAt fs z ht).1 = x) : x + wd ≤ b ∨ (b - a < wd ∧ x = a) := by
  unfold fitsQ at hq
  simp only [Bool.or_eq_true, decide_eq_true_eq] at hq
  omega

set_option maxRecDepth 100000 in
set_option maxHeartbeats 8000000 in
theorem avoidApart {w : World} {v : Value} {fs : List Flt} (h : FlsAt w v fs) (a b wd ht y : Int) : Calls Try.prog 13 #[v, .agg #[.int .i64 a, .int .i64 b, .int .i64 wd, .int .i64 ht, .int .i64 y]] w (Ret (.bool true) w) := by
  have hmix := mixed
  have HB0 := Lib.hid (Blk.new w 55 #[.int .i64 a, .int .i64 b, .int .i64 wd, .int .i64 ht, .int .i64 y])
  have HA0 := Lib.hid ((After.refl w).alloc (.cells #[.int .i64 a, .int .i64 b, .int .i64 wd, .int .i64 ht, .int .i64 y] 55))
  have HV := Lib.hid h
  clear h
  cases hn : nearB fs 30 with
  | false =>
    have HN := Lib.hid hn
    clear hn
    go_enter Try.func13, Try.ntmps13
    go_wp2_with fail
    refine (law12_begin (HV.out.after HA0.out) 30 (by decide)).mono ?_
    rintro e w1 (⟨_, rfl, hw1⟩ | ⟨hh, _⟩)
    · go_wp2_with fail
      refine (law12_speaks _).mono ?_
      rintro e w3 ⟨rfl, hw3⟩
      go_wp2_with fail
      refine (law12_speaks _).mono ?_
      rintro e w4 ⟨rfl, hw4⟩
      go_wp2
      go_ret
      exact ⟨rfl, HA0.out.trans (hw1.trans (hw3.trans hw4))⟩
    · rw [HN.out] at hh; cases hh
  | true =>
    have hall : fs.all smallF = true := by unfold nearB at hn; simp only [Bool.and_eq_true] at hn; exact (all_small hn.1).1
    have hlen : fs.length ≤ 30 := by unfold nearB at hn; simp only [Bool.and_eq_true, decide_eq_true_eq] at hn; have := hn.2; omega
    have HALL := Lib.hid hall
    have HN := Lib.hid hn
    clear hn hall
    cases hr : rightA a b wd ht y with
    | false =>
      have HR := Lib.hid hr
      clear hr
      go_enter Try.func13, Try.ntmps13
      go_wp2_with fail
      refine (law12_begin (HV.out.after HA0.out) 30 (by decide)).mono ?_
      rintro e w1 (⟨hh, _⟩ | ⟨_, S, L, g, cap, fv, rfl, hs, hw1⟩)
      · rw [HN.out] at hh; cases hh
      · have HS1 := Lib.hid hs
        clear hs
        go_wp2_with fail
        refine (law12_speaks _).mono ?_
        rintro e w3 ⟨rfl, hw3⟩
        have A3 := Lib.hid (HA0.out.trans (hw1.trans hw3))
        have B3 := Lib.hid (HB0.out.after (hw1.trans hw3))
        have S3 := Lib.hid (HS1.out.after hw3)
        clear hw1 hw3
        have k0 := B3.out.cell 0
        have k1 := B3.out.cell 1
        have k2 := B3.out.cell 2
        have k3 := B3.out.cell 3
        have k4 := B3.out.cell 4
        simp at k0 k1 k2 k3 k4
        go_wp2_with fail
        refine (ref12_right a b wd ht y _).mono ?_
        rintro e w4 ⟨rfl, hw4⟩
        rw [HR.out]
        have A4 := Lib.hid (A3.out.trans hw4)
        have B4 := Lib.hid (B3.out.after hw4)
        have S4 := Lib.hid (S3.out.after hw4)
        clear hw4 k0 k1 k2 k3 k4
        go_wp2_with fail
        refine (law12_speaks _).mono ?_
        rintro e w5 ⟨rfl, hw5⟩
        go_wp2
        go_ret
        exact ⟨rfl, A4.out.trans hw5⟩
    | true =>
      obtain ⟨ra, rb, rc, rd, re, r0⟩ := rightA_parts hr
      have HR := Lib.hid hr
      clear hr
      go_enter Try.func13, Try.ntmps13
      go_wp2_with fail
      refine (law12_begin (HV.out.after HA0.out) 30 (by decide)).mono ?_
      rintro e w1 (⟨hh, _⟩ | ⟨_, S, L, g, cap, fv, rfl, hs, hw1⟩)
      · rw [HN.out] at hh; cases hh
      · have HS1 := Lib.hid hs
        clear hs
        go_wp2_with fail
        refine (law12_speaks _).mono ?_
        rintro e w3 ⟨rfl, hw3⟩
        have A3 := Lib.hid (HA0.out.trans (hw1.trans hw3))
        have B3 := Lib.hid (HB0.out.after (hw1.trans hw3))
        have S3 := Lib.hid (HS1.out.after hw3)
        clear hw1 hw3
        have k0 := B3.out.cell 0
        have k1 := B3.out.cell 1
        have k2 := B3.out.cell 2
        have k3 := B3.out.cell 3
        have k4 := B3.out.cell 4
        simp at k0 k1 k2 k3 k4
        go_wp2_with fail
        refine (ref12_right a b wd ht y _).mono ?_
        rintro e w4 ⟨rfl, hw4⟩
        rw [HR.out]
        have A4 := Lib.hid (A3.out.trans hw4)
        have B4 := Lib.hid (B3.out.after hw4)
        have S4 := Lib.hid (S3.out.after hw4)
        clear hw4 k0 k1 k2 k3 k4
        obtain ⟨z, hz⟩ : ∃ z, firstOf fs ht (fitsQ a b wd) y = z := ⟨_, rfl⟩
        obtain ⟨x, hx⟩ : ∃ x, max a (bandAt fs z ht).1 = x := ⟨_, rfl⟩
        obtain ⟨z1, z2, z3⟩ := find_at fs ra rb rc re (ht := ht)
        have zr := find_range HALL.out ht (fitsQ a b wd) re
        rw [hz] at z1 z2 z3 zr
        have xr := find_top_range HALL.out zr.1 ra hx
        have hxa : a ≤ x := by omega
        have AE := Lib.hid (apart_end z2 hx)
        have zr' := zr
        unfold Far at zr' xr
        have A0 := ra
        have B0 := rb
        have C0 := rc
        have D0 := rd
        unfold L48 at A0 B0 C0 D0
        have hside := nearB_side HN.out
        have CM := Lib.hid (fun (f : Flt) (hf : f ∈ fs) (w' : World) => by
          have hsm := smallF_nr (List.all_eq_true.1 HALL.out f hf)
          have := rect_meet f.l f.t f.r f.b x z (x + wd) (z + ht) w' hsm.1.1 hsm.1.2.1 hsm.1.2.2.1 hsm.1.2.2.2 (by unfold Nr; omega) (by unfold Nr; omega) (by unfold Nr; omega) (by unfold Nr; omega)
          rw [apart_fl zr.1 z2 hx hf (List.all_eq_true.1 hside f hf)] at this
          exact this)
        have CF := Lib.hid (fun (w' : World) (hw' : After w4 w') => find_c (S4.out.after hw') HALL.out ra rb rc rd re hz hx)
        clear hz hx z2 z3 hside
        have k0 := B4.out.cell 0
        have k1 := B4.out.cell 1
        have k2 := B4.out.cell 2
        have k3 := B4.out.cell 3
        have k4 := B4.out.cell 4
        simp at k0 k1 k2 k3 k4
        go_wp2_with fail
        refine (law12_of a b wd ht y _).mono ?_
        rintro e w5 ⟨rfl, hw5⟩
        clear k0 k1 k2 k3 k4
        go_wp2_with fail
        refine (CF.out _ hw5).mono ?_
        rintro e w6 ⟨rfl, hw6⟩
        have r7 := Blk.new w6 59 #[.int .i64 x, .int .i64 z, .int .i64 (x + wd), .int .i64 (z + ht)]
        have A7 := Lib.hid (show After w4 (w6.alloc (.cells #[.int .i64 x, .int .i64 z, .int .i64 (x + wd), .int .i64 (z + ht)] 59)) from (hw5.trans hw6).alloc _)
        have k0 := (B4.out.after A7.out).cell 0
        have k1 := (B4.out.after A7.out).cell 1
        have k2 := (B4.out.after A7.out).cell 2
        have k3 := (B4.out.after A7.out).cell 3
        have k4 := (B4.out.after A7.out).cell 4
        simp at k0 k1 k2 k3 k4
        have n0 := r7.cell 0
        have n1 := r7.cell 1
        have n2 := r7.cell 2
        have n3 := r7.cell 3
        simp at n0 n1 n2 n3
        have HR7 := Lib.hid r7
        have hwx : IntKind.i64.wrap (x + wd - x) = wd := by rw [IntKind.wrap_i64]; omega
        have hwz : IntKind.i64.wrap (z + ht - z) = ht := by rw [IntKind.wrap_i64]; omega
        clear r7 hw5 hw6
        go_wp2_with fail
        refine (space_floats (S4.out.after A7.out) (by omega)).mono ?_
        rintro e w8 ⟨v8, rfl, hv8, hw8⟩
        obtain ⟨ad, cap8, rfl, hl8, hlc8, hcell8⟩ := hv8.split
        have A8 := Lib.hid (A7.out.trans hw8)
        have R8 := Lib.hid (HR7.out.after hw8)
        have B8 := Lib.hid (B4.out.after A8.out)
        have HC8 := Lib.hid hcell8
        clear hv8 hcell8 hw8 k0 k1 k2 k3 k4 n0 n1 n2 n3
        go_wp2_with fail
        have hmeasure : ∀ k : Nat, k < fs.length → fs.length + 1 - (k + 1) < fs.length + 1 - k := fun k h => by omega
        go_loopw [62] (fun v wr => ∃ k : Nat, v = .int .i64 (k : Int) ∧ k ≤ fs.length ∧ After w8 wr) (fun v _ => fs.length + 1 - (intOf v).toNat)
        case atStart => exact ⟨0, rfl, Nat.zero_le _, After.refl _⟩
        case round =>
          obtain ⟨k, rfl, hk, hwr2⟩ := hrel
          have HW := Lib.hid hwr2
          clear hwr2 hmeasure
          have HB9 := Lib.hid (B8.out.after HW.out)
          have HR9 := Lib.hid (R8.out.after HW.out)
          by_cases hlt : k < fs.length
          · obtain ⟨f, hf⟩ : ∃ f, fs[k]? = some f := ⟨_, List.getElem?_eq_getElem hlt⟩
            have hfm : f ∈ fs := List.mem_of_getElem? hf
            obtain ⟨b9, o9, rfl, hb9, hc9⟩ := HC8.out k f hf
            obtain ⟨c0, c1, c2, c3, c4⟩ := hc9.after hb9 HW.out
            have s0 := fun o => (HR9.out.alloc o).cell 0
            have s1 := fun o => (HR9.out.alloc o).cell 1
            have s2 := fun o => (HR9.out.alloc o).cell 2
            have s3 := fun o => (HR9.out.alloc o).cell 3
            simp at s0 s1 s2 s3
            clear hf hc9 hb9
            go_wp2_with fail
            refine (CM.out f hfm _).mono ?_
            rintro e w9 ⟨rfl, hw9⟩
            have HW9 := Lib.hid (HW.out.trans (((After.refl _).alloc _).trans hw9))
            clear hw9 c0 c1 c2 c3 c4 s0 s1 s2 s3
            go_wp2_with fail
            go_roundw
            case rel => exact ⟨k + 1, by go_num, by omega, HW9.out⟩
            case measure => simp [intOf]; omega
          · have e0 : k = fs.length := by omega
            have n0 := HR9.out.cell 0
            have n2 := HR9.out.cell 2
            simp at n0 n2
            have k0 := HB9.out.cell 0
            have k1 := HB9.out.cell 1
            have k2 := HB9.out.cell 2
            have k3 := HB9.out.cell 3
            have k4 := HB9.out.cell 4
            simp at k0 k1 k2 k3 k4
            have hwab : IntKind.i64.wrap (b - a) = b - a := by rw [IntKind.wrap_i64]; omega
            rcases AE.out with h1 | ⟨h1, h2⟩
            · go_wp2_with fail
              go_ret
              exact ⟨rfl, A4.out.trans (A8.out.trans HW.out)⟩
            · have h3 : ¬ x + wd ≤ b := by omega
              go_wp2_with fail
              go_ret
              exact ⟨ret_bool (by simp [h1, h2]), A4.out.trans (A8.out.trans HW.out)⟩
end Go.Proofs.Ytefbeekjoafijaa
