/- Law SpaceSides: its walk, and its plain law. -/
import Derived.Test.YtefbeekjoafijaaSpeaks
namespace Go.Proofs.Ytefbeekjoafijaa
open Go.RowKit Go.Sort

/-! ### plain: what clears -/
theorem snoc_ind {α : Type} {motive : List α → Prop} (nil : motive []) (snoc : ∀ l x, motive l → motive (l ++ [x])) : ∀ l, motive l := by
  have key : ∀ l : List α, motive l.reverse := by
    intro l
    induction l with
    | nil => exact nil
    | cons a r ih => rw [List.reverse_cons]; exact snoc _ _ ih
  intro l
  have := key l.reverse
  rwa [List.reverse_reverse] at this

theorem clearOf_nil (c y : Int) : clearOf c y [] = y := by
  have : bottomOf c [] = none := by unfold bottomOf botOf; split <;> rfl
  unfold clearOf
  rw [this]
theorem clearOf_snoc {c : Int} (hc : c = 1 ∨ c = 2 ∨ c = 3) (y : Int) (fs : List Flt) (f : Flt) : clearOf c y (fs ++ [f]) = if clearsB c f.side then max (clearOf c y fs) f.b else clearOf c y fs := by
  have hb : ∀ l, bottomOf c l = botOf c l := fun l => by unfold bottomOf; rw [if_neg (by omega)]
  unfold clearOf
  rw [hb, hb, botOf_snoc]
  cases hcl : clearsB c f.side with
  | false => simp
  | true =>
    simp only [if_true]
    cases hbo : botOf c fs with
    | none => simp [reachE]
    | some a =>
      simp only [reachE]
      split <;> omega

theorem clear_sides (y : Int) (fs : List Flt) : (fs.all sideOk) = true →
    clearOf 3 y (fs.filter (fun f => decide (f.side = 1))) = clearOf 1 y fs ∧ clearOf 3 y (fs.filter (fun f => !decide (f.side = 1))) = clearOf 2 y fs ∧ clearOf 3 y fs = max (clearOf 1 y fs) (clearOf 2 y fs) ∧
    clearOf 2 y (fs.filter (fun f => decide (f.side = 1))) = y ∧ clearOf 1 y (fs.filter (fun f => !decide (f.side = 1))) = y := by
  induction fs using snoc_ind with
  | nil =>
    intro _
    simp [clearOf_nil]
  | snoc l f ih =>
    intro h
    rw [List.all_append] at h
    simp only [Bool.and_eq_true, List.all_cons, List.all_nil, Bool.and_true] at h
    obtain ⟨i1, i2, i3, i4, i5⟩ := ih h.1
    have hs : f.side = 1 ∨ f.side = 2 := by simpa [sideOk] using h.2
    rw [List.filter_append, List.filter_append]
    rcases hs with hs | hs
    · have e1 : [f].filter (fun f => decide (f.side = 1)) = [f] := by simp [hs]
      have e2 : [f].filter (fun f => !decide (f.side = 1)) = [] := by simp [hs]
      rw [e1, e2, List.append_nil, clearOf_snoc (by simp), clearOf_snoc (by simp), clearOf_snoc (by simp), clearOf_snoc (by simp), clearOf_snoc (by simp), hs, i1, i2, i3, i4, i5]
      simp [clearsB]
      try omega
    · have e1 : [f].filter (fun f => decide (f.side = 1)) = [] := by simp [hs]
      have e2 : [f].filter (fun f => !decide (f.side = 1)) = [f] := by simp [hs]
      rw [e1, e2, List.append_nil, clearOf_snoc (by simp), clearOf_snoc (by simp), clearOf_snoc (by simp), clearOf_snoc (by simp), clearOf_snoc (by simp), hs, i1, i2, i3, i4, i5]
      simp [clearsB]
      try omega

/-! ### spaces side by side -/
theorem SpaceAt.lower {w : World} {base base' S L g cap : Nat} {fv : Value} {fs : List Flt} (h : SpaceAt w base S L g cap fv fs) (hb : base' ≤ base) : SpaceAt w base' S L g cap fv fs := by
  have low : ∀ {t : TypeId} {size : Nat} {v : Value} {n : Nat} {xs : List Value}, w.ownsRow base t size v n xs → w.ownsRow base' t size v n xs := by
    intro t size v n xs h
    refine ⟨h.1, ?_⟩
    rcases h.2 with h | ⟨g, c, cur, a, b, r⟩
    · exact .inl h
    · exact .inr ⟨g, c, cur, a, Nat.le_trans hb b, r⟩
  exact ⟨h.obj, ⟨h.list.obj, low h.list.row, Nat.le_trans hb h.list.low, h.list.ne, h.list.rising, h.list.small⟩, low h.row, Nat.le_trans hb h.low, h.nil⟩

/-- nothing is owned twice -/
def Dis (p q : Nat → Prop) : Prop := ∀ b, p b → ¬ q b
theorem Dis.symm {p q : Nat → Prop} (h : Dis p q) : Dis q p := fun b hq hp => h b hp hq
theorem Dis.step {p q p' : Nat → Prop} {n : Nat} (h : Dis p q) (hp : ∀ b, p' b → p b ∨ n ≤ b) (hq : ∀ b, q b → b < n) : Dis p' q := fun b hb hqb => by
  rcases hp b hb with h' | h'
  · exact h b h' hqb
  · have := hq b hqb; omega

def one (f : Flt) : Bool := decide (f.side = 1)

def SidesR (fs : List Flt) (base S L S1 L1 S2 L2 : Nat) (v : Value) (w wr : World) : Prop :=
  ∃ (k : Nat) (g c : Nat) (fv : Value) (g1 c1 : Nat) (fv1 : Value) (g2 c2 : Nat) (fv2 : Value), v = .int .i64 (k : Int) ∧ k ≤ fs.length ∧ SpaceAt wr base S L g c fv (fs.take k) ∧
    SpaceAt wr base S1 L1 g1 c1 fv1 ((fs.take k).filter one) ∧ SpaceAt wr base S2 L2 g2 c2 fv2 ((fs.take k).filter (fun f => !one f)) ∧
    Dis (owns S L g fv) (owns S1 L1 g1 fv1) ∧ Dis (owns S L g fv) (owns S2 L2 g2 fv2) ∧ Dis (owns S1 L1 g1 fv1) (owns S2 L2 g2 fv2) ∧ After w wr

set_option maxRecDepth 100000 in
set_option maxHeartbeats 8000000 in
theorem spaceSides {w : World} {v : Value} {fs : List Flt} (h : FlsAt w v fs) (y : Int) : Calls Try.prog 10 #[v, .int .i64 y] w (Ret (.bool true) w) := by
  have hmix := mixed
  cases hfew : fewB fs 40 with
  | false =>
    have hF := Lib.hid hfew
    have HV := Lib.hid h
    clear hfew h
    go_enter Try.func10, Try.ntmps10
    go_wp2_with fail
    refine (law10_speaks _).mono ?_
    rintro e w1 ⟨rfl, hw1⟩
    go_wp2_with fail
    refine (law09_few (HV.out.after hw1) 40).mono ?_
    rintro e w2 ⟨rfl, hw2⟩
    rw [hF.out]
    go_wp2_with fail
    refine (law10_speaks _).mono ?_
    rintro e w3 ⟨rfl, hw3⟩
    go_wp2
    go_ret
    exact ⟨rfl, (hw1.trans hw2).trans hw3⟩
  | true =>
    cases hsd : fs.all sideOk with
    | false =>
      have hF := Lib.hid hfew
      have hS := Lib.hid hsd
      have HV := Lib.hid h
      clear hfew h hsd
      go_enter Try.func10, Try.ntmps10
      go_wp2_with fail
      refine (law10_speaks _).mono ?_
      rintro e w1 ⟨rfl, hw1⟩
      go_wp2_with fail
      refine (law09_few (HV.out.after hw1) 40).mono ?_
      rintro e w2 ⟨rfl, hw2⟩
      rw [hF.out]
      go_wp2_with fail
      refine (law10_sides ((HV.out.after hw1).after hw2)).mono ?_
      rintro e w3 ⟨rfl, hw3⟩
      rw [hS.out]
      go_wp2_with fail
      refine (law10_speaks _).mono ?_
      rintro e w4 ⟨rfl, hw4⟩
      go_wp2
      go_ret
      exact ⟨rfl, ((hw1.trans hw2).trans hw3).trans hw4⟩
    | true =>
      have hsm : fs.all smallF = true := by unfold fewB at hfew; simp only [Bool.and_eq_true] at hfew; exact hfew.1
      have hln : fs.length ≤ 40 := by unfold fewB at hfew; simp only [Bool.and_eq_true, decide_eq_true_eq] at hfew; have := hfew.2; omega
      have hF := Lib.hid hfew
      have hS := Lib.hid hsd
      have hM := Lib.hid hsm
      have HV := Lib.hid h
      clear hfew h hsd hsm
      go_enter Try.func10, Try.ntmps10
      go_wp2_with fail
      refine (law10_speaks _).mono ?_
      rintro e w1 ⟨rfl, hw1⟩
      go_wp2_with fail
      refine (law09_few (HV.out.after hw1) 40).mono ?_
      rintro e w2 ⟨rfl, hw2⟩
      rw [hF.out]
      go_wp2_with fail
      refine (law10_sides ((HV.out.after hw1).after hw2)).mono ?_
      rintro e w3 ⟨rfl, hw3⟩
      rw [hS.out]
      have A3 := (hw1.trans hw2).trans hw3
      clear hw1 hw2 hw3
      go_wp2_with fail
      refine (space_new _).mono ?_
      rintro e w4 ⟨S, L, g, cap, fv, rfl, s0, hw4⟩
      go_wp2_with fail
      refine (space_new _).mono ?_
      rintro e w5 ⟨S1, L1, g1, cap1, fv1, rfl, s1, hw5⟩
      go_wp2_with fail
      refine (space_new _).mono ?_
      rintro e w6 ⟨S2, L2, g2, cap2, fv2, rfl, s2, hw6⟩
      have d1 : Dis (owns S L g fv) (owns S1 L1 g1 fv1) := fun b hb hb' => by have := (s0.owns_lt hb).2; have := (s1.owns_lt hb').1; omega
      have d2 : Dis (owns S L g fv) (owns S2 L2 g2 fv2) := fun b hb hb' => by have := (s0.owns_lt hb).2; have := (s2.owns_lt hb').1; have := hw5.size; omega
      have d3 : Dis (owns S1 L1 g1 fv1) (owns S2 L2 g2 fv2) := fun b hb hb' => by have := (s1.owns_lt hb).2; have := (s2.owns_lt hb').1; omega
      have hz3 := A3.size
      have hz4 := hw4.size
      have hz5 := hw5.size
      have t0 := ((s0.lower (base' := w.heap.size) hz3).after hw5).after hw6
      have t1 := (s1.lower (base' := w.heap.size) (by omega)).after hw6
      have t2 := s2.lower (base' := w.heap.size) (by omega)
      have A6 := ((A3.trans hw4).trans hw5).trans hw6
      have HR : SidesR fs w.heap.size S L S1 L1 S2 L2 (.int .i64 0) w w6 := ⟨0, g, cap, fv, g1, cap1, fv1, g2, cap2, fv2, rfl, Nat.zero_le _, t0, t1, t2, d1, d2, d3, A6⟩
      have HR0 := Lib.hid HR
      clear s0 s1 s2 d1 d2 d3 hz3 hz4 hz5 t0 t1 t2 HR A3 hw4 hw5 hw6
      rcases HV.out with ⟨a0, cap0, rfl, rfl⟩ | ⟨b, o, cp, rfl, hb, ⟨hc, hcm⟩, hh⟩
      · go_wp2_with fail
        go_loopw [40] (fun v wr => SidesR [] w.heap.size S L S1 L1 S2 L2 v w wr) (fun v _ => 1 - (intOf v).toNat)
        case atStart => exact HR0.out
        case round =>
          obtain ⟨k, g, c, fv, g1, c1, fv1, g2, c2, fv2, rfl, hk, t0, t1, t2, d1, d2, d3, hA⟩ := hrel
          have hk0 : k = 0 := by simpa using hk
          subst hk0
          have T0 := Lib.hid t0
          have T1 := Lib.hid t1
          have T2 := Lib.hid t2
          clear t0 t1 t2 d1 d2 d3
          have Z0 := T0.out
          have Z1 := T1.out
          have Z2 := T2.out
          rw [List.take_nil] at Z0 Z1 Z2
          obtain ⟨m1, m2, m3, m4, m5⟩ := clear_sides y [] hS.out
          have HZ0 := Lib.hid Z0
          have HZ1 := Lib.hid Z1
          have HZ2 := Lib.hid Z2
          have C13 := fun (w' : World) (hw' : After wr w') => space_clear (HZ1.out.after hw') 3 y
          have C23 := fun (w' : World) (hw' : After wr w') => space_clear (HZ2.out.after hw') 3 y
          have C03 := fun (w' : World) (hw' : After wr w') => space_clear (HZ0.out.after hw') 3 y
          have C12 := fun (w' : World) (hw' : After wr w') => space_clear (HZ1.out.after hw') 2 y
          have C21 := fun (w' : World) (hw' : After wr w') => space_clear (HZ2.out.after hw') 1 y
          have C01 := fun (w' : World) (hw' : After wr w') => space_clear (HZ0.out.after hw') 1 y
          have C02 := fun (w' : World) (hw' : After wr w') => space_clear (HZ0.out.after hw') 2 y
          rw [show clearOf 3 y (([] : List Flt).filter one) = clearOf 1 y [] from m1] at C13
          rw [show clearOf 3 y (([] : List Flt).filter (fun f => !one f)) = clearOf 2 y [] from m2] at C23
          rw [m3] at C03
          rw [show clearOf 2 y (([] : List Flt).filter one) = y from m4] at C12
          rw [show clearOf 1 y (([] : List Flt).filter (fun f => !one f)) = y from m5] at C21
          generalize clearOf 1 y [] = p at C13 C03 C01
          generalize clearOf 2 y [] = q at C23 C03 C02
          have HC13 := Lib.hid C13
          have HC23 := Lib.hid C23
          have HC03 := Lib.hid C03
          have HC12 := Lib.hid C12
          have HC21 := Lib.hid C21
          have HC01 := Lib.hid C01
          have HC02 := Lib.hid C02
          clear Z0 Z1 Z2 m1 m2 m3 m4 m5 C13 C23 C03 C12 C21 C01 C02
          go_wp2_with fail
          refine (HC01.out _ (After.refl _)).mono ?_
          rintro e w1' ⟨rfl, h1⟩
          have a1 := Lib.hid h1
          clear h1
          go_wp2_with fail
          refine (HC02.out _ a1.out).mono ?_
          rintro e w2' ⟨rfl, h2⟩
          have a2 := Lib.hid (a1.out.trans h2)
          clear h2
          go_wp2_with fail
          refine (HC13.out _ a2.out).mono ?_
          rintro e w3' ⟨rfl, h3⟩
          have a3 := Lib.hid (a2.out.trans h3)
          clear h3
          go_wp2_with fail
          refine (HC23.out _ a3.out).mono ?_
          rintro e w4' ⟨rfl, h4⟩
          have a4 := Lib.hid (a3.out.trans h4)
          clear h4
          go_wp2_with fail
          refine (HC03.out _ a4.out).mono ?_
          rintro e w5' ⟨rfl, h5⟩
          have a5 := Lib.hid (a4.out.trans h5)
          clear h5
          by_cases hpq : p < q
          · have hmx : max p q = q := by omega
            rw [hmx]
            clear hmx
            go_wp2_with fail
            refine (HC12.out _ a5.out).mono ?_
            rintro e w6' ⟨rfl, h6⟩
            have a6 := Lib.hid (a5.out.trans h6)
            clear h6
            go_wp2_with fail
            refine (HC21.out _ a6.out).mono ?_
            rintro e w7' ⟨rfl, h7⟩
            go_wp2
            go_ret
            exact ⟨rfl, hA.trans (a6.out.trans h7)⟩
          · have hmx : max p q = p := by omega
            rw [hmx]
            clear hmx
            go_wp2_with fail
            refine (HC12.out _ a5.out).mono ?_
            rintro e w6' ⟨rfl, h6⟩
            have a6 := Lib.hid (a5.out.trans h6)
            clear h6
            go_wp2_with fail
            refine (HC21.out _ a6.out).mono ?_
            rintro e w7' ⟨rfl, h7⟩
            go_wp2
            go_ret
            exact ⟨rfl, hA.trans (a6.out.trans h7)⟩
      · have H := Lib.hid hh
        clear hh
        go_wp2_with fail
        go_loopw [40] (fun v wr => SidesR fs w.heap.size S L S1 L1 S2 L2 v w wr) (fun v _ => fs.length + 1 - (intOf v).toNat)
        case atStart => exact HR0.out
        case round =>
          obtain ⟨k, g, c, fv, g1, c1, fv1, g2, c2, fv2, rfl, hk, t0, t1, t2, d1, d2, d3, hA⟩ := hrel
          have T0 := Lib.hid t0
          have T1 := Lib.hid t1
          have T2 := Lib.hid t2
          have D1 := Lib.hid d1
          have D2 := Lib.hid d2
          have D3 := Lib.hid d3
          clear t0 t1 t2 d1 d2 d3
          by_cases hlt : k < fs.length
          · obtain ⟨f, hf⟩ : ∃ f, fs[k]? = some f := ⟨_, List.getElem?_eq_getElem hlt⟩
            obtain ⟨c0, c1', c2', c3, c4⟩ := H.out k f hf
            rw [← hA.cell hb] at c0 c1' c2' c3 c4
            have Hf := Lib.hid hf
            have Hfs := Lib.hid (List.all_eq_true.1 hM.out f (List.mem_of_getElem? hf))
            have Hss := Lib.hid (show f.side = 1 ∨ f.side = 2 by have := List.all_eq_true.1 hS.out f (List.mem_of_getElem? hf); simpa [sideOk] using this)
            clear hf
            go_wp2_with fail
            refine name_world (fun W2 hW2 => ?_)
            have b2 : Blk W2 wr.heap.size 72 #[.int .i64 f.side, .int .i64 f.l, .int .i64 f.t, .int .i64 f.r, .int .i64 f.b] := by rw [hW2]; exact Blk.new _ _ _
            have A2 : After wr W2 := by rw [hW2]; exact (After.refl _).alloc _
            clear hW2
            have k0 := b2.cell 0
            have k1 := b2.cell 1
            have k2 := b2.cell 2
            have k3 := b2.cell 3
            have k4 := b2.cell 4
            simp at k0 k1 k2 k3 k4
            have q0 := fun n os => cell_grown (w := W2) b2.lt k0 n os
            have q1 := fun n os => cell_grown (w := W2) b2.lt k1 n os
            have q2 := fun n os => cell_grown (w := W2) b2.lt k2 n os
            have q3 := fun n os => cell_grown (w := W2) b2.lt k3 n os
            have q4 := fun n os => cell_grown (w := W2) b2.lt k4 n os
            refine wp_region_quiet_tail 6 (by assumption) (by kernel_rfl) ?_
            simp only [List.take_succ_cons, List.take_zero, List.drop_succ_cons, List.drop_zero]
            repeat (quiet_step ((go_at_call 46; exact Calls.grown_after (law02_of _ _ _ _ _))))
            refine wpQuiet_nil ?_
            rintro _ ⟨p, rfl⟩
            generalize hw3 : grow (W2.drewN p.n) p.os = w3
            have A3 : After W2 w3 := hw3 ▸ After.of_grown _ _
            clear hw3 q0 q1 q2 q3 q4 k0 k1 k2 k3 k4
            have A23 := A2.trans A3
            have U0 := Lib.hid (T0.out.after A23)
            have U1 := Lib.hid (T1.out.after A23)
            have U2 := Lib.hid (T2.out.after A23)
            have A03 := Lib.hid (hA.trans A23)
            have b3 := b2.after A3
            go_wp2_with fail
            refine (put_any U0.out (by rw [List.length_take]; omega) f.side f.l f.t f.r f.b Hss.out Hfs.out).mono ?_
            rintro e w4 ⟨rfl, g4, cap4, fv4, s4, O4, G4⟩
            rw [show ({ side := f.side, l := f.l, t := f.t, r := f.r, b := f.b } : Flt) = f from rfl, ← take_snoc Hf.out] at s4
            have A04 : After w w4 := ((A03.out.only _).trans O4 (fun _ _ h => h)).after_of (fun k hk hS => by
              have := (U0.out.owns_lt hS).1
              omega)
            have V1 := Lib.hid (U1.out.only O4 (fun b hb hb' => D1.out b hb' hb))
            have V2 := Lib.hid (U2.out.only O4 (fun b hb hb' => D2.out b hb' hb))
            have E1 := Lib.hid (D1.out.step G4 (fun b hb => (U1.out.owns_lt hb).2))
            have E2 := Lib.hid (D2.out.step G4 (fun b hb => (U2.out.owns_lt hb).2))
            have b4 := b3.only O4 (fun h => by have := (T0.out.owns_lt h).2; omega)
            have V0 := Lib.hid s4
            have HA4 := Lib.hid A04
            have k0 := b4.cell 0
            have k1 := b4.cell 1
            have k2 := b4.cell 2
            have k3 := b4.cell 3
            have k4 := b4.cell 4
            simp at k0 k1 k2 k3 k4
            have q0 := fun n os => cell_grown (w := w4) b4.lt k0 n os
            have q1 := fun n os => cell_grown (w := w4) b4.lt k1 n os
            have q2 := fun n os => cell_grown (w := w4) b4.lt k2 n os
            have q3 := fun n os => cell_grown (w := w4) b4.lt k3 n os
            have q4 := fun n os => cell_grown (w := w4) b4.lt k4 n os
            clear s4 O4 G4 A04
            by_cases hs1 : f.side = 1
            · have hs1' : (f.side == 1) = true := by simpa using hs1
              have Hs1 := Lib.hid hs1
              clear hs1
              go_wp2_with fail
              refine wp_region_quiet_tail 6 (by assumption) (by kernel_rfl) ?_
              simp only [List.take_succ_cons, List.take_zero, List.drop_succ_cons, List.drop_zero]
              repeat (quiet_step ((go_at_call 46; exact Calls.grown_after (law02_of _ _ _ _ _))))
              refine wpQuiet_nil ?_
              rintro _ ⟨p, rfl⟩
              generalize hw5 : grow (w4.drewN p.n) p.os = w5
              have A5 : After w4 w5 := hw5 ▸ After.of_grown _ _
              clear hw5 q0 q1 q2 q3 q4 k0 k1 k2 k3 k4
              have X0 := Lib.hid (V0.out.after A5)
              have X1 := Lib.hid (V1.out.after A5)
              have X2 := Lib.hid (V2.out.after A5)
              have A05 := Lib.hid (HA4.out.trans A5)
              clear A5
              go_wp2_with fail
              refine (put_any X1.out (by have := List.length_filter_le one (fs.take k); rw [List.length_take] at this; omega) f.side f.l f.t f.r f.b Hss.out Hfs.out).mono ?_
              rintro e w6 ⟨rfl, g6, cap6, fv6, s6, O6, G6⟩
              rw [show ({ side := f.side, l := f.l, t := f.t, r := f.r, b := f.b } : Flt) = f from rfl] at s6
              have A06 := Lib.hid (((A05.out.only _).trans O6 (fun _ _ h => h)).after_of (fun k hk hS => by
                have := (X1.out.owns_lt hS).1
                omega))
              have ek1 : (fs.take (k + 1)).filter one = (fs.take k).filter one ++ [f] := by
                rw [take_snoc Hf.out, List.filter_append]
                have : [f].filter one = [f] := by simp [one, Hs1.out]
                rw [this]
              have ek2 : (fs.take (k + 1)).filter (fun f => !one f) = (fs.take k).filter (fun f => !one f) := by
                rw [take_snoc Hf.out, List.filter_append]
                have : [f].filter (fun f => !one f) = [] := by simp [one, Hs1.out]
                rw [this]; simp
              have Y0 := X0.out.only O6 (fun b hb hb' => E1.out b hb hb')
              have Y2 := X2.out.only O6 (fun b hb hb' => D3.out b hb' hb)
              have F1 : Dis (owns S L g4 fv4) (owns S1 L1 g6 fv6) := ((E1.out.symm).step G6 (fun b hb => (X0.out.owns_lt hb).2)).symm
              have F3 : Dis (owns S1 L1 g6 fv6) (owns S2 L2 g2 fv2) := D3.out.step G6 (fun b hb => (X2.out.owns_lt hb).2)
              have HR : SidesR fs w.heap.size S L S1 L1 S2 L2 (.int .i64 ((k : Int) + 1)) w w6 :=
                ⟨k + 1, g4, cap4, fv4, g6, cap6, fv6, g2, c2, fv2, by simp, by omega, Y0, by rw [ek1]; exact s6, by rw [ek2]; exact Y2, F1, E2.out, F3, A06.out⟩
              have HR6 := Lib.hid HR
              clear HR s6 O6 G6 ek1 ek2
              go_wp2_with fail
              go_roundw
              case rel => exact HR6.out
              case measure => simp [intOf]; omega
            · have hs1' : (f.side == 1) = false := by simpa using hs1
              have Hs1 := Lib.hid hs1
              clear hs1
              go_wp2_with fail
              refine wp_region_quiet_tail 6 (by assumption) (by kernel_rfl) ?_
              simp only [List.take_succ_cons, List.take_zero, List.drop_succ_cons, List.drop_zero]
              repeat (quiet_step ((go_at_call 46; exact Calls.grown_after (law02_of _ _ _ _ _))))
              refine wpQuiet_nil ?_
              rintro _ ⟨p, rfl⟩
              generalize hw5 : grow (w4.drewN p.n) p.os = w5
              have A5 : After w4 w5 := hw5 ▸ After.of_grown _ _
              clear hw5 q0 q1 q2 q3 q4 k0 k1 k2 k3 k4
              have X0 := Lib.hid (V0.out.after A5)
              have X1 := Lib.hid (V1.out.after A5)
              have X2 := Lib.hid (V2.out.after A5)
              have A05 := Lib.hid (HA4.out.trans A5)
              clear A5
              go_wp2_with fail
              refine (put_any X2.out (by have := List.length_filter_le (fun f => !one f) (fs.take k); rw [List.length_take] at this; omega) f.side f.l f.t f.r f.b Hss.out Hfs.out).mono ?_
              rintro e w6 ⟨rfl, g6, cap6, fv6, s6, O6, G6⟩
              rw [show ({ side := f.side, l := f.l, t := f.t, r := f.r, b := f.b } : Flt) = f from rfl] at s6
              have A06 := Lib.hid (((A05.out.only _).trans O6 (fun _ _ h => h)).after_of (fun k hk hS => by
                have := (X2.out.owns_lt hS).1
                omega))
              have ek1 : (fs.take (k + 1)).filter one = (fs.take k).filter one := by
                rw [take_snoc Hf.out, List.filter_append]
                have : [f].filter one = [] := by simp [one, Hs1.out]
                rw [this]; simp
              have ek2 : (fs.take (k + 1)).filter (fun f => !one f) = (fs.take k).filter (fun f => !one f) ++ [f] := by
                rw [take_snoc Hf.out, List.filter_append]
                have : [f].filter (fun f => !one f) = [f] := by simp [one, Hs1.out]
                rw [this]
              have Y0 := X0.out.only O6 (fun b hb hb' => E2.out b hb hb')
              have Y1 := X1.out.only O6 (fun b hb hb' => D3.out b hb hb')
              have F2 : Dis (owns S L g4 fv4) (owns S2 L2 g6 fv6) := ((E2.out.symm).step G6 (fun b hb => (X0.out.owns_lt hb).2)).symm
              have F3 : Dis (owns S1 L1 g1 fv1) (owns S2 L2 g6 fv6) := ((D3.out.symm).step G6 (fun b hb => (X1.out.owns_lt hb).2)).symm
              have HR : SidesR fs w.heap.size S L S1 L1 S2 L2 (.int .i64 ((k : Int) + 1)) w w6 :=
                ⟨k + 1, g4, cap4, fv4, g1, c1, fv1, g6, cap6, fv6, by simp, by omega, Y0, by rw [ek1]; exact Y1, by rw [ek2]; exact s6, E1.out, F2, F3, A06.out⟩
              have HR6 := Lib.hid HR
              clear HR s6 O6 G6 ek1 ek2
              go_wp2_with fail
              go_roundw
              case rel => exact HR6.out
              case measure => simp [intOf]; omega
          · have e0 : k = fs.length := by omega
            have Z0 := T0.out
            have Z1 := T1.out
            have Z2 := T2.out
            rw [e0, List.take_length] at Z0 Z1 Z2
            obtain ⟨m1, m2, m3, m4, m5⟩ := clear_sides y fs hS.out
            have HZ0 := Lib.hid Z0
            have HZ1 := Lib.hid Z1
            have HZ2 := Lib.hid Z2
            have C13 := fun (w' : World) (hw' : After wr w') => space_clear (HZ1.out.after hw') 3 y
            have C23 := fun (w' : World) (hw' : After wr w') => space_clear (HZ2.out.after hw') 3 y
            have C03 := fun (w' : World) (hw' : After wr w') => space_clear (HZ0.out.after hw') 3 y
            have C12 := fun (w' : World) (hw' : After wr w') => space_clear (HZ1.out.after hw') 2 y
            have C21 := fun (w' : World) (hw' : After wr w') => space_clear (HZ2.out.after hw') 1 y
            have C01 := fun (w' : World) (hw' : After wr w') => space_clear (HZ0.out.after hw') 1 y
            have C02 := fun (w' : World) (hw' : After wr w') => space_clear (HZ0.out.after hw') 2 y
            rw [show clearOf 3 y (fs.filter one) = clearOf 1 y fs from m1] at C13
            rw [show clearOf 3 y (fs.filter (fun f => !one f)) = clearOf 2 y fs from m2] at C23
            rw [m3] at C03
            rw [show clearOf 2 y (fs.filter one) = y from m4] at C12
            rw [show clearOf 1 y (fs.filter (fun f => !one f)) = y from m5] at C21
            generalize clearOf 1 y fs = p at C13 C03 C01
            generalize clearOf 2 y fs = q at C23 C03 C02
            have HC13 := Lib.hid C13
            have HC23 := Lib.hid C23
            have HC03 := Lib.hid C03
            have HC12 := Lib.hid C12
            have HC21 := Lib.hid C21
            have HC01 := Lib.hid C01
            have HC02 := Lib.hid C02
            clear Z0 Z1 Z2 m1 m2 m3 m4 m5 C13 C23 C03 C12 C21 C01 C02
            go_wp2_with fail
            refine (HC01.out _ (After.refl _)).mono ?_
            rintro e w1' ⟨rfl, h1⟩
            have a1 := Lib.hid h1
            clear h1
            go_wp2_with fail
            refine (HC02.out _ a1.out).mono ?_
            rintro e w2' ⟨rfl, h2⟩
            have a2 := Lib.hid (a1.out.trans h2)
            clear h2
            go_wp2_with fail
            refine (HC13.out _ a2.out).mono ?_
            rintro e w3' ⟨rfl, h3⟩
            have a3 := Lib.hid (a2.out.trans h3)
            clear h3
            go_wp2_with fail
            refine (HC23.out _ a3.out).mono ?_
            rintro e w4' ⟨rfl, h4⟩
            have a4 := Lib.hid (a3.out.trans h4)
            clear h4
            go_wp2_with fail
            refine (HC03.out _ a4.out).mono ?_
            rintro e w5' ⟨rfl, h5⟩
            have a5 := Lib.hid (a4.out.trans h5)
            clear h5
            by_cases hpq : p < q
            · have hmx : max p q = q := by omega
              rw [hmx]
              clear hmx
              go_wp2_with fail
              refine (HC12.out _ a5.out).mono ?_
              rintro e w6' ⟨rfl, h6⟩
              have a6 := Lib.hid (a5.out.trans h6)
              clear h6
              go_wp2_with fail
              refine (HC21.out _ a6.out).mono ?_
              rintro e w7' ⟨rfl, h7⟩
              go_wp2
              go_ret
              exact ⟨rfl, hA.trans (a6.out.trans h7)⟩
            · have hmx : max p q = p := by omega
              rw [hmx]
              clear hmx
              go_wp2_with fail
              refine (HC12.out _ a5.out).mono ?_
              rintro e w6' ⟨rfl, h6⟩
              have a6 := Lib.hid (a5.out.trans h6)
              clear h6
              go_wp2_with fail
              refine (HC21.out _ a6.out).mono ?_
              rintro e w7' ⟨rfl, h7⟩
              go_wp2
              go_ret
              exact ⟨rfl, hA.trans (a6.out.trans h7)⟩
end Go.Proofs.Ytefbeekjoafijaa
