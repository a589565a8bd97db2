/- What the laws of chapter 11 share: Right, Of, begin, the reference's At. -/
import Derived.Test.YtefbeekjoafijaaPlacePut
namespace Go.Proofs.Ytefbeekjoafijaa
open Go.RowKit Go.Sort
set_option linter.unusedVariables false
set_option linter.unusedSimpArgs false
attribute [local irreducible] wpQuiet

def rightP (side clear a b wd ht y : Int) : Bool := [a, b, wd, ht, y].all in48 && decide ((side = 1 ∨ side = 2) ∧ 0 ≤ clear ∧ clear ≤ 3 ∧ a ≤ b)

theorem rightP_parts {side clear a b wd ht y : Int} (h : rightP side clear a b wd ht y = true) : (side = 1 ∨ side = 2) ∧ L48 a ∧ L48 b ∧ L48 wd ∧ L48 ht ∧ L48 y ∧ 0 ≤ clear ∧ clear ≤ 3 ∧ a ≤ b := by
  unfold rightP at h
  simp [in48] at h
  unfold L48
  omega

set_option maxHeartbeats 4000000 in
theorem ref11_right (side clear a b wd ht y : Int) (w : World) :
    Calls Try.prog 59 #[.agg #[.int .i64 side, .int .i64 clear, .int .i64 a, .int .i64 b, .int .i64 wd, .int .i64 ht, .int .i64 y]] w (Ret (.bool (rightP side clear a b wd ht y)) w) := by
  go_enter Try.func59, Try.ntmps59
  go_wp2_with fail
  refine name_world (fun W4 hW4 => ?_)
  have b4 : Blk W4 (w.heap.size + 1) 3 #[.int .i64 a, .int .i64 b, .int .i64 wd, .int .i64 ht, .int .i64 y] := by rw [hW4]; exact blk_new1 w _ _ _
  have b5 : Blk W4 w.heap.size 92 #[.int .i64 side, .int .i64 clear, .int .i64 a, .int .i64 b, .int .i64 wd, .int .i64 ht, .int .i64 y] := by rw [hW4]; exact (Blk.new w _ _).alloc _
  have A4 : After w W4 := by rw [hW4]; exact ((After.refl _).alloc _).alloc _
  have k0 := b4.cell 0
  have k1 := b4.cell 1
  have k2 := b4.cell 2
  have k3 := b4.cell 3
  have k4 := b4.cell 4
  have m0 := b5.cell 0
  have m1 := b5.cell 1
  have m2 := b5.cell 2
  have m3 := b5.cell 3
  simp at k0 k1 k2 k3 k4 m0 m1 m2 m3
  clear hW4
  go_loopw [17] (fun v wr => RightRel [a, b, wd, ht, y] v W4 wr) (fun v _ => 6 - (intOf v).toNat)
  case atStart => exact ⟨0, rfl, by decide, rfl, rfl⟩
  case round =>
    obtain ⟨k, rfl, hk, hs, rfl⟩ := hrel
    have Hs := Lib.hid hs
    clear hs
    rcases (show k = 0 ∨ k = 1 ∨ k = 2 ∨ k = 3 ∨ k = 4 ∨ k = 5 by omega) with rfl | rfl | rfl | rfl | rfl | rfl
    · cases hin : in48 a with
      | true =>
        have hin' := hin
        unfold in48 at hin'
        simp only [decide_eq_true_eq] at hin'
        have e1 : ¬ 281474976710656 < a := by omega
        have e2 : ¬ a < -281474976710656 := by omega
        have E3 := Lib.hid (show [a, b, wd, ht, y].all in48 = ([a, b, wd, ht, y].drop 1).all in48 by rw [Hs.out]; simp [hin])
        clear hin hin'
        go_wp2_with fail
        go_roundw
        case rel => exact ⟨1, rfl, by decide, E3.out, rfl⟩
        case measure => decide
      | false =>
        have E3 := Lib.hid (show rightP side clear a b wd ht y = false by unfold rightP; rw [Hs.out]; simp [hin])
        unfold in48 at hin
        simp only [decide_eq_false_iff_not] at hin
        by_cases e1 : 281474976710656 < a
        · go_wp2_with fail
          go_ret
          exact ⟨ret_bool E3.out.symm, A4⟩
        · have e2 : a < -281474976710656 := by omega
          go_wp2_with fail
          go_ret
          exact ⟨ret_bool E3.out.symm, A4⟩
    · cases hin : in48 b with
      | true =>
        have hin' := hin
        unfold in48 at hin'
        simp only [decide_eq_true_eq] at hin'
        have e1 : ¬ 281474976710656 < b := by omega
        have e2 : ¬ b < -281474976710656 := by omega
        have E3 := Lib.hid (show [a, b, wd, ht, y].all in48 = ([a, b, wd, ht, y].drop 2).all in48 by rw [Hs.out]; simp [hin])
        clear hin hin'
        go_wp2_with fail
        go_roundw
        case rel => exact ⟨2, rfl, by decide, E3.out, rfl⟩
        case measure => decide
      | false =>
        have E3 := Lib.hid (show rightP side clear a b wd ht y = false by unfold rightP; rw [Hs.out]; simp [hin])
        unfold in48 at hin
        simp only [decide_eq_false_iff_not] at hin
        by_cases e1 : 281474976710656 < b
        · go_wp2_with fail
          go_ret
          exact ⟨ret_bool E3.out.symm, A4⟩
        · have e2 : b < -281474976710656 := by omega
          go_wp2_with fail
          go_ret
          exact ⟨ret_bool E3.out.symm, A4⟩
    · cases hin : in48 wd with
      | true =>
        have hin' := hin
        unfold in48 at hin'
        simp only [decide_eq_true_eq] at hin'
        have e1 : ¬ 281474976710656 < wd := by omega
        have e2 : ¬ wd < -281474976710656 := by omega
        have E3 := Lib.hid (show [a, b, wd, ht, y].all in48 = ([a, b, wd, ht, y].drop 3).all in48 by rw [Hs.out]; simp [hin])
        clear hin hin'
        go_wp2_with fail
        go_roundw
        case rel => exact ⟨3, rfl, by decide, E3.out, rfl⟩
        case measure => decide
      | false =>
        have E3 := Lib.hid (show rightP side clear a b wd ht y = false by unfold rightP; rw [Hs.out]; simp [hin])
        unfold in48 at hin
        simp only [decide_eq_false_iff_not] at hin
        by_cases e1 : 281474976710656 < wd
        · go_wp2_with fail
          go_ret
          exact ⟨ret_bool E3.out.symm, A4⟩
        · have e2 : wd < -281474976710656 := by omega
          go_wp2_with fail
          go_ret
          exact ⟨ret_bool E3.out.symm, A4⟩
    · cases hin : in48 ht with
      | true =>
        have hin' := hin
        unfold in48 at hin'
        simp only [decide_eq_true_eq] at hin'
        have e1 : ¬ 281474976710656 < ht := by omega
        have e2 : ¬ ht < -281474976710656 := by omega
        have E3 := Lib.hid (show [a, b, wd, ht, y].all in48 = ([a, b, wd, ht, y].drop 4).all in48 by rw [Hs.out]; simp [hin])
        clear hin hin'
        go_wp2_with fail
        go_roundw
        case rel => exact ⟨4, rfl, by decide, E3.out, rfl⟩
        case measure => decide
      | false =>
        have E3 := Lib.hid (show rightP side clear a b wd ht y = false by unfold rightP; rw [Hs.out]; simp [hin])
        unfold in48 at hin
        simp only [decide_eq_false_iff_not] at hin
        by_cases e1 : 281474976710656 < ht
        · go_wp2_with fail
          go_ret
          exact ⟨ret_bool E3.out.symm, A4⟩
        · have e2 : ht < -281474976710656 := by omega
          go_wp2_with fail
          go_ret
          exact ⟨ret_bool E3.out.symm, A4⟩
    · cases hin : in48 y with
      | true =>
        have hin' := hin
        unfold in48 at hin'
        simp only [decide_eq_true_eq] at hin'
        have e1 : ¬ 281474976710656 < y := by omega
        have e2 : ¬ y < -281474976710656 := by omega
        have E3 := Lib.hid (show [a, b, wd, ht, y].all in48 = ([a, b, wd, ht, y].drop 5).all in48 by rw [Hs.out]; simp [hin])
        clear hin hin'
        go_wp2_with fail
        go_roundw
        case rel => exact ⟨5, rfl, by decide, E3.out, rfl⟩
        case measure => decide
      | false =>
        have E3 := Lib.hid (show rightP side clear a b wd ht y = false by unfold rightP; rw [Hs.out]; simp [hin])
        unfold in48 at hin
        simp only [decide_eq_false_iff_not] at hin
        by_cases e1 : 281474976710656 < y
        · go_wp2_with fail
          go_ret
          exact ⟨ret_bool E3.out.symm, A4⟩
        · have e2 : y < -281474976710656 := by omega
          go_wp2_with fail
          go_ret
          exact ⟨ret_bool E3.out.symm, A4⟩
    · clear k0 k1 k2 k3 k4
      by_cases s1 : side = 1
      · subst s1
        by_cases c1 : 0 ≤ clear
        · by_cases c2 : clear ≤ 3
          · have E3 := Lib.hid (show rightP 1 clear a b wd ht y = decide (a ≤ b) by unfold rightP; rw [Hs.out]; first | (simp [*]; done) | (simp [*]; omega))
            go_wp2_with fail
            go_ret
            exact ⟨ret_bool E3.out.symm, A4⟩
          · have E3 := Lib.hid (show rightP 1 clear a b wd ht y = false by unfold rightP; rw [Hs.out]; first | (simp [*]; done) | (simp [*]; omega))
            go_wp2_with fail
            go_ret
            exact ⟨ret_bool E3.out.symm, A4⟩
        · have E3 := Lib.hid (show rightP 1 clear a b wd ht y = false by unfold rightP; rw [Hs.out]; first | (simp [*]; done) | (simp [*]; omega))
          go_wp2_with fail
          go_ret
          exact ⟨ret_bool E3.out.symm, A4⟩
      · by_cases s2 : side = 2
        · subst s2
          clear s1
          by_cases c1 : 0 ≤ clear
          · by_cases c2 : clear ≤ 3
            · have E3 := Lib.hid (show rightP 2 clear a b wd ht y = decide (a ≤ b) by unfold rightP; rw [Hs.out]; first | (simp [*]; done) | (simp [*]; omega))
              go_wp2_with fail
              go_ret
              exact ⟨ret_bool E3.out.symm, A4⟩
            · have E3 := Lib.hid (show rightP 2 clear a b wd ht y = false by unfold rightP; rw [Hs.out]; first | (simp [*]; done) | (simp [*]; omega))
              go_wp2_with fail
              go_ret
              exact ⟨ret_bool E3.out.symm, A4⟩
          · have E3 := Lib.hid (show rightP 2 clear a b wd ht y = false by unfold rightP; rw [Hs.out]; first | (simp [*]; done) | (simp [*]; omega))
            go_wp2_with fail
            go_ret
            exact ⟨ret_bool E3.out.symm, A4⟩
        · have n1 : (side == 1) = false := by simpa using s1
          have n2 : (side == 2) = false := by simpa using s2
          have E3 := Lib.hid (show rightP side clear a b wd ht y = false by unfold rightP; rw [Hs.out]; first | (simp [*]; done) | (simp [*]; omega))
          go_wp2_with fail
          go_ret
          exact ⟨ret_bool E3.out.symm, A4⟩

theorem law11_of (side clear a b wd ht y : Int) (w : World) :
    Calls Try.prog 61 #[.agg #[.int .i64 side, .int .i64 clear, .int .i64 a, .int .i64 b, .int .i64 wd, .int .i64 ht, .int .i64 y]] w (Ret (.agg #[.int .i64 side, .int .i64 clear, .int .i64 a, .int .i64 b, .int .i64 wd, .int .i64 ht, .int .i64 y]) w) := by
  go_enter Try.func61, Try.ntmps61
  go_wp2
  exact bodyPost_ret (v := .agg #[.int .i64 side, .int .i64 clear, .int .i64 a, .int .i64 b, .int .i64 wd, .int .i64 ht, .int .i64 y]) (by simp [results, Try.results61, go_sem]) rfl ⟨rfl, ((After.refl _).alloc _).alloc _⟩

theorem law11_begin {w : World} {v : Value} {fs : List Flt} (h : FlsAt w v fs) (most : Int) (hm : most ≤ 1000) : Calls Try.prog 57 #[v, .int .i64 most] w (Begin12Post w fs most) := by
  obtain ⟨ad, cap, rfl, hlen, hlc, hcell⟩ := h.split
  have HV := Lib.hid h
  clear h hcell
  cases hn : fs.all nearF with
  | false =>
    have hN := Lib.hid hn
    clear hn
    go_enter Try.func57, Try.ntmps57
    go_wp2_with fail
    refine (ref11_near HV.out).mono ?_
    rintro e w1 ⟨rfl, hw1⟩
    rw [hN.out]
    go_wp2
    go_ret
    exact .inl ⟨by unfold nearB; rw [hN.out]; rfl, rfl, hw1⟩
  | true =>
    have hN := Lib.hid hn
    clear hn
    by_cases hl : most < (fs.length : Int)
    · go_enter Try.func57, Try.ntmps57
      go_wp2_with fail
      refine (ref11_near HV.out).mono ?_
      rintro e w1 ⟨rfl, hw1⟩
      rw [hN.out]
      go_wp2
      go_ret
      exact .inl ⟨by unfold nearB; rw [hN.out]; simp; omega, rfl, hw1⟩
    · go_enter Try.func57, Try.ntmps57
      go_wp2_with fail
      refine (ref11_near HV.out).mono ?_
      rintro e w1 ⟨rfl, hw1⟩
      rw [hN.out]
      go_wp2_with fail
      refine (law10_begin (HV.out.after hw1) (all_small hN.out).1 (all_small hN.out).2 (by omega)).mono ?_
      rintro e w2 ⟨S, L, g, cap2, fv, rfl, hs, hw2⟩
      have HS := Lib.hid hs
      clear hs
      go_wp2
      go_ret
      refine .inr ⟨by unfold nearB; rw [hN.out]; simp; omega, S, L, g, cap2, fv, rfl, HS.out.lowr hw1.size, hw1.trans hw2⟩

theorem fitsP_split (side a b wd p q : Int) : fitsP side a b wd (p, q) = if wd ≤ min b q - max a p then true else sticksP side a b wd (p, q) := by
  unfold fitsP
  by_cases h : wd ≤ min b q - max a p
  · rw [if_pos h, decide_eq_true h]; rfl
  · rw [if_neg h, decide_eq_false h]; rfl

set_option maxHeartbeats 4000000 in
theorem ref11_at {w : World} {v : Value} {fs : List Flt} (h : FlsAt w v fs) (hall : fs.all smallF = true) {side clear a b wd ht y : Int} (hs : side = 1 ∨ side = 2) (ha : L48 a) (hb : L48 b) (hw : L48 wd) (hh : L48 ht) (z : Int) (hz : -Far ≤ z ∧ z ≤ Far)
    {ok : Bool} {r : Int} (hok : fitsP side a b wd (bandAt fs z ht) = ok) (hr : (if ok = true then leftP side a b wd (bandAt fs z ht) else 0) = r) :
    Calls Try.prog 63 #[v, .agg #[.int .i64 side, .int .i64 clear, .int .i64 a, .int .i64 b, .int .i64 wd, .int .i64 ht, .int .i64 y], .int .i64 z] w (Ret (.tuple #[.int .i64 r, .bool ok]) w) := by
  obtain ⟨b1, b2, b3, b4⟩ := band_nr hall ht hz.1
  have hi1a : 1 ≤ hi1 ht := by unfold hi1; omega
  have hx : refBand fs z (z + hi1 ht) = bandAt fs z ht := (bandOf_ref fs hz.1).symm
  unfold L48 at ha hb hw hh
  have hi1b : hi1 ht ≤ 281474976710656 := by unfold hi1; omega
  unfold Far at hz b1 b2 b3 b4
  have Cb := fun (w' : World) (hw' : After w w') => ref10_bounds (h.after hw') z ht ⟨by omega, by omega⟩ ⟨by omega, by omega⟩
  have Cf := fun (w' : World) (hw' : After w w') => ref10_free (h.after hw') a b z ht ⟨by omega, by omega⟩ ⟨by omega, by omega⟩
  rw [hx] at Cb Cf
  clear hx h
  obtain ⟨x, hxe⟩ : ∃ x, bandAt fs z ht = x := ⟨_, rfl⟩
  rw [hxe] at b1 b2 b3 b4 Cb Cf hok hr
  clear hxe
  obtain ⟨p, q⟩ := x
  dsimp only at b1 b2 b3 b4 Cb Cf
  have hleft : leftP side a b wd (p, q) = atL side (max a p) (min b q) wd := rfl
  rw [hleft] at hr
  rw [fitsP_split] at hok
  have CB := Lib.hid Cb
  have CF := Lib.hid Cf
  have HOK := Lib.hid hok
  have HR := Lib.hid hr
  clear Cb Cf hok hr hleft
  have HB1 := Lib.hid (Blk.new w 92 #[.int .i64 side, .int .i64 clear, .int .i64 a, .int .i64 b, .int .i64 wd, .int .i64 ht, .int .i64 y])
  have HA1 := Lib.hid ((After.refl w).alloc (.cells #[.int .i64 side, .int .i64 clear, .int .i64 a, .int .i64 b, .int .i64 wd, .int .i64 ht, .int .i64 y] 92))
  have hw1 : IntKind.i64.wrap (min b q - max a p) = min b q - max a p := by rw [IntKind.wrap_i64]; omega
  have hw2 : IntKind.i64.wrap (b - a) = b - a := by rw [IntKind.wrap_i64]; omega
  have hw3 : IntKind.i64.wrap (a + wd) = a + wd := by rw [IntKind.wrap_i64]; omega
  have hw4 : IntKind.i64.wrap (b - wd) = b - wd := by rw [IntKind.wrap_i64]; omega
  have hw5 : IntKind.i64.wrap (min b q - wd) = min b q - wd := by rw [IntKind.wrap_i64]; omega
  rcases hs with rfl | rfl
  · go_enter Try.func63, Try.ntmps63
    go_wp2_with fail
    refine (CB.out _ HA1.out).mono ?_
    rintro e w2 ⟨rfl, hA2⟩
    have A2 := Lib.hid (HA1.out.trans hA2)
    have B2 := Lib.hid (HB1.out.after hA2)
    clear hA2
    have k2 := B2.out.cell 2
    have k3 := B2.out.cell 3
    have k5 := B2.out.cell 5
    simp at k2 k3 k5
    go_wp2_with fail
    refine (CF.out _ A2.out).mono ?_
    rintro e w3 ⟨rfl, hA3⟩
    have A3 := Lib.hid (A2.out.trans hA3)
    have B3 := Lib.hid (B2.out.after hA3)
    clear hA3 k2 k3 k5
    have k0 := B3.out.cell 0
    have k2 := B3.out.cell 2
    have k3 := B3.out.cell 3
    have k4 := B3.out.cell 4
    simp at k0 k2 k3 k4
    by_cases h1 : wd ≤ min b q - max a p
    · have HV := Lib.hid (show ok = true from by rw [← HOK.out, if_pos h1])
      go_wp2_with fail
      go_ret2
      refine ⟨ret_ib ?_ ?_, A3.out⟩
      · rw [← HR.out, HV.out]; first | rfl | (show a = max a p; omega) | (show b - wd = min b q - wd; omega)
      · rw [HV.out]
    · by_cases g1 : b - a < wd
      · have g1' : decide (b - a < wd) = true := decide_eq_true g1
        by_cases g2 : p ≤ a
        · have e2 : (max a p == a) = true := by simp; omega
          have e3 : max a p = a := by omega
          by_cases g3 : a + wd ≤ q
          · have g3' : decide (a + wd ≤ q) = true := decide_eq_true g3
            have HV := Lib.hid (show ok = true from by rw [← HOK.out, if_neg h1]; exact decide_eq_true ⟨g1, g2, g3⟩)
            go_wp2_with fail
            go_ret2
            refine ⟨ret_ib ?_ ?_, A3.out⟩
            · rw [← HR.out, HV.out]; first | rfl | (show a = max a p; omega) | (show b - wd = min b q - wd; omega)
            · rw [HV.out]
          · have g3' : decide (a + wd ≤ q) = false := decide_eq_false g3
            have HV := Lib.hid (show ok = false from by rw [← HOK.out, if_neg h1]; exact decide_eq_false (fun h => g3 h.2.2))
            go_wp2_with fail
            go_ret2
            refine ⟨ret_ib ?_ ?_, A3.out⟩
            · rw [← HR.out, HV.out]; first | rfl | (show a = max a p; omega) | (show b - wd = min b q - wd; omega)
            · rw [HV.out]
        · have e2 : (max a p == a) = false := by simp; omega
          have e3 : ¬ max a p = a := by omega
          have HV := Lib.hid (show ok = false from by rw [← HOK.out, if_neg h1]; exact decide_eq_false (fun h => g2 h.2.1))
          go_wp2_with fail
          go_ret2
          refine ⟨ret_ib ?_ ?_, A3.out⟩
          · rw [← HR.out, HV.out]; first | rfl | (show a = max a p; omega) | (show b - wd = min b q - wd; omega)
          · rw [HV.out]
      · have g1' : decide (b - a < wd) = false := decide_eq_false g1
        have HV := Lib.hid (show ok = false from by rw [← HOK.out, if_neg h1]; exact decide_eq_false (fun h => g1 h.1))
        go_wp2_with fail
        go_ret2
        refine ⟨ret_ib ?_ ?_, A3.out⟩
        · rw [← HR.out, HV.out]; first | rfl | (show a = max a p; omega) | (show b - wd = min b q - wd; omega)
        · rw [HV.out]
  · go_enter Try.func63, Try.ntmps63
    go_wp2_with fail
    refine (CB.out _ HA1.out).mono ?_
    rintro e w2 ⟨rfl, hA2⟩
    have A2 := Lib.hid (HA1.out.trans hA2)
    have B2 := Lib.hid (HB1.out.after hA2)
    clear hA2
    have k2 := B2.out.cell 2
    have k3 := B2.out.cell 3
    have k5 := B2.out.cell 5
    simp at k2 k3 k5
    go_wp2_with fail
    refine (CF.out _ A2.out).mono ?_
    rintro e w3 ⟨rfl, hA3⟩
    have A3 := Lib.hid (A2.out.trans hA3)
    have B3 := Lib.hid (B2.out.after hA3)
    clear hA3 k2 k3 k5
    have k0 := B3.out.cell 0
    have k2 := B3.out.cell 2
    have k3 := B3.out.cell 3
    have k4 := B3.out.cell 4
    simp at k0 k2 k3 k4
    by_cases h1 : wd ≤ min b q - max a p
    · have HV := Lib.hid (show ok = true from by rw [← HOK.out, if_pos h1])
      go_wp2_with fail
      go_ret2
      refine ⟨ret_ib ?_ ?_, A3.out⟩
      · rw [← HR.out, HV.out]; first | rfl | (show a = max a p; omega) | (show b - wd = min b q - wd; omega)
      · rw [HV.out]
    · by_cases g1 : b - a < wd
      · have g1' : decide (b - a < wd) = true := decide_eq_true g1
        by_cases g2 : b ≤ q
        · have e2 : (min b q == b) = true := by simp; omega
          have e3 : min b q = b := by omega
          by_cases g3 : p ≤ b - wd
          · have g3' : decide (p ≤ b - wd) = true := decide_eq_true g3
            have HV := Lib.hid (show ok = true from by rw [← HOK.out, if_neg h1]; exact decide_eq_true ⟨g1, g3, g2⟩)
            go_wp2_with fail
            go_ret2
            refine ⟨ret_ib ?_ ?_, A3.out⟩
            · rw [← HR.out, HV.out]; first | rfl | (show a = max a p; omega) | (show b - wd = min b q - wd; omega)
            · rw [HV.out]
          · have g3' : decide (p ≤ b - wd) = false := decide_eq_false g3
            have HV := Lib.hid (show ok = false from by rw [← HOK.out, if_neg h1]; exact decide_eq_false (fun h => g3 h.2.1))
            go_wp2_with fail
            go_ret2
            refine ⟨ret_ib ?_ ?_, A3.out⟩
            · rw [← HR.out, HV.out]; first | rfl | (show a = max a p; omega) | (show b - wd = min b q - wd; omega)
            · rw [HV.out]
        · have e2 : (min b q == b) = false := by simp; omega
          have e3 : ¬ min b q = b := by omega
          have HV := Lib.hid (show ok = false from by rw [← HOK.out, if_neg h1]; exact decide_eq_false (fun h => g2 h.2.2))
          go_wp2_with fail
          go_ret2
          refine ⟨ret_ib ?_ ?_, A3.out⟩
          · rw [← HR.out, HV.out]; first | rfl | (show a = max a p; omega) | (show b - wd = min b q - wd; omega)
          · rw [HV.out]
      · have g1' : decide (b - a < wd) = false := decide_eq_false g1
        have HV := Lib.hid (show ok = false from by rw [← HOK.out, if_neg h1]; exact decide_eq_false (fun h => g1 h.1))
        go_wp2_with fail
        go_ret2
        refine ⟨ret_ib ?_ ?_, A3.out⟩
        · rw [← HR.out, HV.out]; first | rfl | (show a = max a p; omega) | (show b - wd = min b q - wd; omega)
        · rw [HV.out]
end Go.Proofs.Ytefbeekjoafijaa
