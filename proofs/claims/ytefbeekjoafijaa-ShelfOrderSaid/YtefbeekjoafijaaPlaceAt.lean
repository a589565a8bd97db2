/- place.At, place.Start. -/
import Derived.Test.YtefbeekjoafijaaPlace
namespace Go.Proofs.Ytefbeekjoafijaa
open Go.RowKit Go.Sort
set_option linter.unusedVariables false
set_option linter.unusedSimpArgs false
attribute [local irreducible] wpQuiet

set_option maxRecDepth 100000 in
set_option maxHeartbeats 4000000 in
theorem place_at {w : World} {base S L g cap : Nat} {fv : Value} {fs : List Flt} (h : SpaceAt w base S L g cap fv fs) (hall : fs.all smallF = true) {side clear a b wd ht y : Int} (hs : side = 1 ∨ side = 2) (ha : L48 a) (hb : L48 b) (hw : L48 wd) (hh : L48 ht) (z : Int) (hz : -Far ≤ z ∧ z ≤ Far)
    {ok : Bool} {r : Int} (hok : fitsP side a b wd (bandAt fs z ht) = ok) (hr : (if ok = true then leftP side a b wd (bandAt fs z ht) else 0) = r) :
    Calls Try.prog 86 #[.pointer (some ⟨S, 0, none⟩), .agg #[.int .i64 side, .int .i64 clear, .int .i64 a, .int .i64 b, .int .i64 wd, .int .i64 ht, .int .i64 y], .int .i64 z] w (Ret (.tuple #[.int .i64 r, .bool ok]) w) := by
  have hmix := mixed
  obtain ⟨b1, b2, b3, b4⟩ := band_nr hall ht hz.1
  have hi1a : 1 ≤ hi1 ht := by unfold hi1; omega
  have hx : bandAt fs z ht = bandOf fs z (z + hi1 ht) := rfl
  obtain ⟨x, hxe⟩ : ∃ x, bandAt fs z ht = x := ⟨_, rfl⟩
  have ha' := ha
  have hb' := hb
  have hw' := hw
  have hh' := hh
  unfold L48 at ha' hb' hw' hh'
  have hi1b : hi1 ht ≤ 281474976710656 := by unfold hi1; omega
  unfold Far at hz b1 b2 b3 b4
  have Cf := fun (w' : World) (hw' : After w w') => space_free (h.after hw') a b z (z + hi1 ht) ⟨by omega, by omega⟩ ⟨by omega, by omega⟩
  have Cb := fun (w' : World) (hw' : After w w') => space_bounds (h.after hw') z (z + hi1 ht) ⟨by omega, by omega⟩ ⟨by omega, by omega⟩
  rw [← hx, hxe] at Cf Cb
  rw [hxe] at b1 b2 b3 b4 hok hr
  clear hx hxe h
  obtain ⟨p, q⟩ := x
  dsimp only at b1 b2 b3 b4 Cf Cb
  have hP1 : -4503599627370496 ≤ max a p ∧ max a p ≤ 4503599627370496 := by omega
  have hQ1 : -4503599627370496 ≤ min b q ∧ min b q ≤ 4503599627370496 := by omega
  have Cl := fun (w' : World) => want_at side clear a b wd ht y (max a p) (min b q) w' hs hP1 hQ1 hw
  have Cs := fun (w' : World) => want_sticks side clear a b wd ht y p q w' hs ha hb hw
  have hleft : leftP side a b wd (p, q) = atL side (max a p) (min b q) wd := rfl
  have hfit : fitsP side a b wd (p, q) = (decide (wd ≤ min b q - max a p) || sticksP side a b wd (p, q)) := rfl
  rw [hleft] at hr
  rw [hfit] at hok
  obtain ⟨l, hl⟩ : ∃ l, atL side (max a p) (min b q) wd = l := ⟨_, rfl⟩
  obtain ⟨l', hl'⟩ : ∃ l', atR side (max a p) (min b q) wd = l' := ⟨_, rfl⟩
  obtain ⟨st, hst⟩ : ∃ st, sticksP side a b wd (p, q) = st := ⟨_, rfl⟩
  rw [hl, hl'] at Cl
  rw [hl] at hr
  rw [hst] at Cs hok
  have CF := Lib.hid Cf
  have CB := Lib.hid Cb
  have CL := Lib.hid Cl
  have CS := Lib.hid Cs
  have HOK := Lib.hid hok
  have HR := Lib.hid hr
  clear Cf Cb Cl Cs hl hl' hst hok hr hleft hfit ha hb hw hh hs
  obtain ⟨w1, hw1⟩ : ∃ w1, w.alloc (.cells #[.int .i64 side, .int .i64 clear, .int .i64 a, .int .i64 b, .int .i64 wd, .int .i64 ht, .int .i64 y] 96) = w1 := ⟨_, rfl⟩
  have A1 := Lib.hid (show After w w1 from hw1 ▸ (After.refl w).alloc _)
  have B1 := Lib.hid (show Blk w1 w.heap.size 96 #[.int .i64 side, .int .i64 clear, .int .i64 a, .int .i64 b, .int .i64 wd, .int .i64 ht, .int .i64 y] from hw1 ▸ Blk.new w _ _)
  have k5 := B1.out.cell 5
  simp at k5
  go_enter Try.func86, Try.ntmps86
  go_wp2_with fail
  refine (space_rows z ht _ (by omega) (by omega) (by omega) (by omega)).mono ?_
  rintro e w2 ⟨rfl, hw2⟩
  clear hw1 k5
  have R3 := Blk.new w2 34 #[.int .i64 z, .int .i64 (z + hi1 ht)]
  have A3 := Lib.hid (show After w1 (w2.alloc (.cells #[.int .i64 z, .int .i64 (z + hi1 ht)] 34)) from hw2.alloc _)
  have HR3 := Lib.hid R3
  have k2 := (B1.out.after A3.out).cell 2
  have k3 := (B1.out.after A3.out).cell 3
  simp at k2 k3
  clear R3 hw2
  go_wp2_with fail
  refine (CF.out _ (A1.out.trans A3.out)).mono ?_
  rintro e w4 ⟨rfl, hw4⟩
  clear k2 k3
  have F5 := Lib.hid (Blk.new w4 34 #[.int .i64 (max a p), .int .i64 (min b q)])
  have A5 := Lib.hid (show After w1 (w4.alloc (.cells #[.int .i64 (max a p), .int .i64 (min b q)] 34)) from (A3.out.trans hw4).alloc _)
  have R5 := Lib.hid (HR3.out.after (hw4.alloc (.cells #[.int .i64 (max a p), .int .i64 (min b q)] 34)))
  clear hw4 HR3 A3
  go_wp2_with fail
  generalize w4.alloc (.cells #[.int .i64 (max a p), .int .i64 (min b q)] 34) = w5 at F5 A5 R5 ⊢
  have A05 := Lib.hid (A1.out.trans A5.out)
  have B5 := Lib.hid (B1.out.after A5.out)
  clear B1 A1 A5
  have k0 := B5.out.cell 0
  have k1 := B5.out.cell 1
  have k2 := B5.out.cell 2
  have k3 := B5.out.cell 3
  have k4 := B5.out.cell 4
  have k5 := B5.out.cell 5
  have k6 := B5.out.cell 6
  have m0 := F5.out.cell 0
  have m1 := F5.out.cell 1
  have n0 := R5.out.cell 0
  have n1 := R5.out.cell 1
  simp at k0 k1 k2 k3 k4 k5 k6 m0 m1 n0 n1
  have q0 := fun n os => cell_grown (w := w5) B5.out.lt k0 n os
  have q1 := fun n os => cell_grown (w := w5) B5.out.lt k1 n os
  have q2 := fun n os => cell_grown (w := w5) B5.out.lt k2 n os
  have q3 := fun n os => cell_grown (w := w5) B5.out.lt k3 n os
  have q4 := fun n os => cell_grown (w := w5) B5.out.lt k4 n os
  have q5 := fun n os => cell_grown (w := w5) B5.out.lt k5 n os
  have q6 := fun n os => cell_grown (w := w5) B5.out.lt k6 n os
  have q7 := fun n os => cell_grown (w := w5) F5.out.lt m0 n os
  have q8 := fun n os => cell_grown (w := w5) F5.out.lt m1 n os
  have q9 := fun n os => cell_grown (w := w5) R5.out.lt n0 n os
  have qa := fun n os => cell_grown (w := w5) R5.out.lt n1 n os
  have hfld : ∀ (c d : Int) (w : World), (Instr.field 34 (.agg #[.int .i64 c, .int .i64 d]) 0).run Try.prog w = .ok (.int .i64 c) w := fun _ _ _ => by kernel_rfl
  clear k0 k1 k2 k3 k4 k5 k6 m0 m1 n0 n1
  by_cases h1 : wd ≤ min b q - max a p
  · have h1' : decide (wd ≤ min b q - max a p) = true := decide_eq_true h1
    have HO : ok = true := by rw [← HOK.out, h1']; rfl
    go_quiet_grown ((go_at_call 67; exact Calls.grown_after (span_len _ _ _ (by omega) (by omega) (by omega) (by omega))))
    generalize hw6 : grow (w5.drewN _) _ = w6
    have A6 := Lib.hid (show After w5 w6 from hw6 ▸ After.of_grown _ _)
    clear hw6 q0 q1 q2 q3 q4 q5 q6 q7 q8 q9 qa
    have k0 := (B5.out.after A6.out).cell 0
    have k1 := (B5.out.after A6.out).cell 1
    have k2 := (B5.out.after A6.out).cell 2
    have k3 := (B5.out.after A6.out).cell 3
    have k4 := (B5.out.after A6.out).cell 4
    have k5 := (B5.out.after A6.out).cell 5
    have k6 := (B5.out.after A6.out).cell 6
    have m0 := (F5.out.after A6.out).cell 0
    have m1 := (F5.out.after A6.out).cell 1
    simp at k0 k1 k2 k3 k4 k5 k6 m0 m1
    have HO2 := Lib.hid HO
    clear HO
    go_wp2_with fail
    refine (CL.out _).mono ?_
    rintro e w7 ⟨rfl, hw7⟩
    go_wp2_with fail
    go_ret2
    refine ⟨ret_ib ?_ ?_, A05.out.trans (A6.out.trans hw7)⟩
    · rw [← HR.out, HO2.out]; rfl
    · exact HO2.out.symm
  · have h1' : decide (wd ≤ min b q - max a p) = false := decide_eq_false h1
    have HO : ok = st := by rw [← HOK.out, h1']; rfl
    have HO2 := Lib.hid HO
    clear HO
    cases hst : st with
    | true =>
      have HST := Lib.hid hst
      rw [hst] at CS
      clear hst
      go_quiet_grown (first | (go_at_call 67; exact Calls.grown_after (span_len _ _ _ (by omega) (by omega) (by omega) (by omega))) | (go_at_call 36; exact Calls.grown_after (CB.out _ (A05.out.trans (After.of_grown _ _)))) | (go_at_call 98; exact Calls.grown_after (CS.out _)))
      generalize hw6 : grow (w5.drewN _) _ = w6
      have A6 := Lib.hid (show After w5 w6 from hw6 ▸ After.of_grown _ _)
      clear hw6 q0 q1 q2 q3 q4 q5 q6 q7 q8 q9 qa
      have k0 := (B5.out.after A6.out).cell 0
      have k1 := (B5.out.after A6.out).cell 1
      have k2 := (B5.out.after A6.out).cell 2
      have k3 := (B5.out.after A6.out).cell 3
      have k4 := (B5.out.after A6.out).cell 4
      have k5 := (B5.out.after A6.out).cell 5
      have k6 := (B5.out.after A6.out).cell 6
      have m0 := (F5.out.after A6.out).cell 0
      have m1 := (F5.out.after A6.out).cell 1
      simp at k0 k1 k2 k3 k4 k5 k6 m0 m1
      go_wp2_with fail
      refine (CL.out _).mono ?_
      rintro e w7 ⟨rfl, hw7⟩
      go_wp2_with fail
      go_ret2
      refine ⟨ret_ib ?_ ?_, A05.out.trans (A6.out.trans hw7)⟩
      · rw [← HR.out, HO2.out, HST.out]; rfl
      · rw [HO2.out, HST.out]
    | false =>
      have HST := Lib.hid hst
      rw [hst] at CS
      clear hst
      go_quiet_grown (first | (go_at_call 67; exact Calls.grown_after (span_len _ _ _ (by omega) (by omega) (by omega) (by omega))) | (go_at_call 36; exact Calls.grown_after (CB.out _ (A05.out.trans (After.of_grown _ _)))) | (go_at_call 98; exact Calls.grown_after (CS.out _)))
      generalize hw6 : grow (w5.drewN _) _ = w6
      have A6 := Lib.hid (show After w5 w6 from hw6 ▸ After.of_grown _ _)
      clear hw6 q0 q1 q2 q3 q4 q5 q6 q7 q8 q9 qa
      go_wp2_with fail
      go_ret2
      refine ⟨ret_ib ?_ ?_, A05.out.trans A6.out⟩
      · rw [← HR.out, HO2.out, HST.out]; rfl
      · rw [HO2.out, HST.out]

/-! ### Start -/
def startP (fs : List Flt) (clear y : Int) : Int := match lastOf fs with | none => clearOf clear y fs | some t => max (clearOf clear y fs) t

theorem place_start {w : World} {base S L g cap : Nat} {fv : Value} {fs : List Flt} (h : SpaceAt w base S L g cap fv fs) (side clear a b wd ht y : Int) :
    Calls Try.prog 62 #[.pointer (some ⟨S, 0, none⟩), .agg #[.int .i64 side, .int .i64 clear, .int .i64 a, .int .i64 b, .int .i64 wd, .int .i64 ht, .int .i64 y]] w (Ret (.int .i64 (startP fs clear y)) w) := by
  have H := Lib.hid h
  clear h
  obtain ⟨c, hc⟩ : ∃ c, clearOf clear y fs = c := ⟨_, rfl⟩
  have CC := Lib.hid (fun (w' : World) (hw' : After w w') => space_clear (H.out.after hw') clear y)
  have CL := Lib.hid (fun (w' : World) (hw' : After w w') => space_last (H.out.after hw'))
  rw [hc] at CC
  have B1 := Lib.hid (Blk.new w 96 #[.int .i64 side, .int .i64 clear, .int .i64 a, .int .i64 b, .int .i64 wd, .int .i64 ht, .int .i64 y])
  have A1 := Lib.hid ((After.refl w).alloc (.cells #[.int .i64 side, .int .i64 clear, .int .i64 a, .int .i64 b, .int .i64 wd, .int .i64 ht, .int .i64 y] 96))
  unfold startP
  rw [hc]
  clear hc
  cases hl : lastOf fs with
  | none =>
    rw [hl] at CL
    simp only [eAt, Option.getD_none, Option.isSome_none] at CL
    clear hl
    go_enter Try.func62, Try.ntmps62
    go_wp2_with fail
    refine (CC.out _ A1.out).mono ?_
    rintro e w2 ⟨rfl, hw2⟩
    go_wp2_with fail
    refine (CL.out _ (A1.out.trans hw2)).mono ?_
    rintro e w3 ⟨rfl, hw3⟩
    go_wp2
    go_ret
    exact ⟨rfl, A1.out.trans (hw2.trans hw3)⟩
  | some t =>
    rw [hl] at CL
    simp only [eAt, Option.getD_some, Option.isSome_some] at CL
    clear hl
    obtain ⟨m, hm⟩ : ∃ m, max c t = m := ⟨_, rfl⟩
    have HM := Lib.hid hm
    show Calls Try.prog 62 #[.pointer (some ⟨S, 0, none⟩), .agg #[.int .i64 side, .int .i64 clear, .int .i64 a, .int .i64 b, .int .i64 wd, .int .i64 ht, .int .i64 y]] w (Ret (.int .i64 (max c t)) w)
    rw [hm]
    clear hm
    by_cases hct : c < t
    · have HE := Lib.hid (show m = t by have := HM.out; omega)
      go_enter Try.func62, Try.ntmps62
      go_wp2_with fail
      refine (CC.out _ A1.out).mono ?_
      rintro e w2 ⟨rfl, hw2⟩
      go_wp2_with fail
      refine (CL.out _ (A1.out.trans hw2)).mono ?_
      rintro e w3 ⟨rfl, hw3⟩
      go_wp2
      go_ret
      exact ⟨ret_int HE.out.symm, A1.out.trans (hw2.trans hw3)⟩
    · have HE := Lib.hid (show m = c by have := HM.out; omega)
      go_enter Try.func62, Try.ntmps62
      go_wp2_with fail
      refine (CC.out _ A1.out).mono ?_
      rintro e w2 ⟨rfl, hw2⟩
      go_wp2_with fail
      refine (CL.out _ (A1.out.trans hw2)).mono ?_
      rintro e w3 ⟨rfl, hw3⟩
      go_wp2
      go_ret
      exact ⟨ret_int HE.out.symm, A1.out.trans (hw2.trans hw3)⟩
end Go.Proofs.Ytefbeekjoafijaa
