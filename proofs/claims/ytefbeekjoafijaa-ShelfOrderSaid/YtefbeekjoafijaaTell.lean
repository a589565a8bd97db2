/- What a space tells: Last, Bottom, Clear, Floats, Bounds, Free; Sides, Begin. -/
import Derived.Test.YtefbeekjoafijaaPut
namespace Go.Proofs.Ytefbeekjoafijaa
open Go.RowKit Go.Sort

section
variable {w : World} {base S L g cap : Nat} {fv : Value} {fs : List Flt}

theorem space_last (h : SpaceAt w base S L g cap fv fs) : Calls Try.prog 48 #[.pointer (some ⟨S, 0, none⟩)] w (Ret (.tuple #[.int .i64 (eAt (lastOf fs)), .bool (lastOf fs).isSome]) w) := by
  have k0 := h.obj.cell 2
  have k1 := h.obj.cell 3
  simp [sCells] at k0 k1
  clear h
  go_enter Try.func48, Try.ntmps48
  go_wp2_with fail
  refine (edge_get _ _).mono ?_
  rintro e w1 ⟨rfl, hw1⟩
  go_wp2
  go_ret2
  exact ⟨rfl, hw1⟩

/-- what Bottom tells -/
def bottomOf (c : Int) (fs : List Flt) : Option Int := if c ≤ 0 ∨ 3 < c then none else botOf c fs

theorem space_bottom (h : SpaceAt w base S L g cap fv fs) (c : Int) : Calls Try.prog 50 #[.pointer (some ⟨S, 0, none⟩), .int .i64 c] w (Ret (.tuple #[.int .i64 (eAt (bottomOf c fs)), .bool (bottomOf c fs).isSome]) w) := by
  by_cases hc0 : c ≤ 0
  · have e : bottomOf c fs = none := by unfold bottomOf; rw [if_pos (.inl hc0)]
    rw [e]
    clear h e
    go_enter Try.func50, Try.ntmps50
    go_wp2
    go_ret2
    exact ⟨rfl, After.refl _⟩
  · by_cases hc3 : 3 < c
    · have e : bottomOf c fs = none := by unfold bottomOf; rw [if_pos (.inr hc3)]
      rw [e]
      clear h e
      go_enter Try.func50, Try.ntmps50
      go_wp2
      go_ret2
      exact ⟨rfl, After.refl _⟩
    · have e : bottomOf c fs = botOf c fs := by unfold bottomOf; rw [if_neg (by omega)]
      rw [e]
      have k : w.cell? ⟨S, 4 + c.toNat * 2, none⟩ = some (.int .i64 (eAt (botOf c fs))) ∧ w.cell? ⟨S, 4 + c.toNat * 2 + 1, none⟩ = some (.bool (botOf c fs).isSome) := by
        rcases (show c = 1 ∨ c = 2 ∨ c = 3 by omega) with rfl | rfl | rfl <;> exact ⟨h.obj.cell _, h.obj.cell _⟩
      obtain ⟨k0, k1⟩ := k
      have i0 : 0 ≤ c := by omega
      have i1 : c.toNat < 4 := by omega
      have i2 : c < 4 := by omega
      clear h e
      go_enter Try.func50, Try.ntmps50
      go_wp2_with fail
      refine (edge_get _ _).mono ?_
      rintro e w1 ⟨rfl, hw1⟩
      go_wp2
      go_ret2
      exact ⟨rfl, hw1⟩

def clearOf (c y : Int) (fs : List Flt) : Int := match bottomOf c fs with | none => y | some b => max y b

theorem space_clear (h : SpaceAt w base S L g cap fv fs) (c y : Int) : Calls Try.prog 47 #[.pointer (some ⟨S, 0, none⟩), .int .i64 c, .int .i64 y] w (Ret (.int .i64 (clearOf c y fs)) w) := by
  have hB := space_bottom h c
  clear h
  cases hb : bottomOf c fs with
  | none =>
    have e : clearOf c y fs = y := by unfold clearOf; rw [hb]
    rw [e]
    rw [hb] at hB
    have HB := Lib.hid hB
    clear hb e hB
    go_enter Try.func47, Try.ntmps47
    go_wp2_with fail
    refine HB.out.mono ?_
    rintro e w1 ⟨rfl, hw1⟩
    simp only [Option.isSome_none, eAt, Option.getD_none]
    go_wp2
    go_ret
    exact ⟨rfl, hw1⟩
  | some b =>
    have e : clearOf c y fs = max y b := by unfold clearOf; rw [hb]
    rw [e]
    rw [hb] at hB
    have HB := Lib.hid hB
    clear hb e hB
    go_enter Try.func47, Try.ntmps47
    go_wp2_with fail
    refine HB.out.mono ?_
    rintro e w1 ⟨rfl, hw1⟩
    simp only [Option.isSome_some, eAt, Option.getD_some]
    go_wp2
    all_goals
      go_ret
      exact ⟨ret_int (by omega), hw1⟩

theorem space_bounds (h : SpaceAt w base S L g cap fv fs) (a b : Int) (ha : Nr a) (hb : Nr b) :
    Calls Try.prog 36 #[.pointer (some ⟨S, 0, none⟩), .agg #[.int .i64 a, .int .i64 b]] w (Ret (.agg #[.int .i64 (bandOf fs a b).1, .int .i64 (bandOf fs a b).2]) w) := by
  have hmix := mixed
  have H := Lib.hid h
  clear h
  go_enter Try.func36, Try.ntmps36
  go_wp2_with fail
  refine name_world (fun W2 hW2 => ?_)
  have b0 : Blk W2 w.heap.size 34 #[.int .i64 a, .int .i64 b] := by
    rw [hW2]; exact (Blk.new w _ _).alloc _
  have b1 : Blk W2 (w.heap.size + 1) 34 #[.int .i64 0, .int .i64 0] := by
    rw [hW2]
    have := Blk.new (w.alloc (.cells #[.int .i64 a, .int .i64 b] 34)) 34 #[.int .i64 0, .int .i64 0]
    rwa [World.size_alloc] at this
  have A2 : After w W2 := by rw [hW2]; exact ((After.refl _).alloc _).alloc _
  have H2 := Lib.hid (H.out.after A2)
  clear hW2
  have k0 := H2.out.obj.cell 0
  have k1 := b0.cell 0
  have k2 := b0.cell 1
  simp [sCells] at k0 k1 k2
  have q0 := fun n os => cell_grown (w := W2) H2.out.obj.lt k0 n os
  have q1 := fun n os => cell_grown (w := W2) b0.lt k1 n os
  have q2 := fun n os => cell_grown (w := W2) b0.lt k2 n os
  clear k0 k1 k2
  refine wp_region_quiet_tail 6 (by assumption) (by kernel_rfl) ?_
  simp only [List.take_succ_cons, List.take_zero, List.drop_succ_cons, List.drop_zero]
  repeat (quiet_step ((go_at_call 24; exact Calls.grown_after (band_any (H2.out.list.after (After.of_grown _ _)) a b ha hb))))
  refine wpQuiet_nil ?_
  rintro _ ⟨p, rfl⟩
  generalize hw5 : grow (W2.drewN p.n) p.os = w5
  have A5 : After W2 w5 := hw5 ▸ After.of_grown _ _
  clear hw5 q0 q1 q2
  have b5 := b1.after A5
  have c5 := b5.cell
  have f5 := b5.frozen
  go_wp2_with fail
  refine bodyPost_ret (v := .agg #[.int .i64 (bandOf fs a b).1, .int .i64 (bandOf fs a b).2]) ?_ rfl ⟨rfl, ?_⟩
  · have r1 := ((b5.set_ 0 (.int .i64 (bandOf fs a b).1)).set_ 1 (.int .i64 (bandOf fs a b).2)).cell
    unfold bandOf at r1 ⊢
    simp [results, Try.results36, go_sem, r1]
  · exact ((A2.trans A5).setCell (by simp) _).setCell (by simp) _

theorem space_free (h : SpaceAt w base S L g cap fv fs) (c d a b : Int) (ha : Nr a) (hb : Nr b) :
    Calls Try.prog 37 #[.pointer (some ⟨S, 0, none⟩), .agg #[.int .i64 c, .int .i64 d], .agg #[.int .i64 a, .int .i64 b]] w (Ret (.agg #[.int .i64 (max c (bandOf fs a b).1), .int .i64 (min d (bandOf fs a b).2)]) w) := by
  have hmix := mixed
  have H := Lib.hid h
  clear h
  go_enter Try.func37, Try.ntmps37
  go_wp2_with fail
  refine name_world (fun W2 hW2 => ?_)
  have b0 : Blk W2 w.heap.size 34 #[.int .i64 c, .int .i64 d] := by
    rw [hW2]; exact ((Blk.new w _ _).alloc _).alloc _
  have b1 : Blk W2 (w.heap.size + 1) 34 #[.int .i64 a, .int .i64 b] := by
    rw [hW2]
    have := (Blk.new (w.alloc (.cells #[.int .i64 c, .int .i64 d] 34)) 34 #[.int .i64 a, .int .i64 b]).alloc (.cells #[.int .i64 0, .int .i64 0] 34)
    rwa [World.size_alloc] at this
  have b2 : Blk W2 (w.heap.size + 2) 34 #[.int .i64 0, .int .i64 0] := by
    rw [hW2]
    have := Blk.new ((w.alloc (.cells #[.int .i64 c, .int .i64 d] 34)).alloc (.cells #[.int .i64 a, .int .i64 b] 34)) 34 #[.int .i64 0, .int .i64 0]
    rwa [World.size_alloc, World.size_alloc] at this
  have A2 : After w W2 := by rw [hW2]; exact (((After.refl _).alloc _).alloc _).alloc _
  have H2 := Lib.hid (H.out.after A2)
  clear hW2
  have k0 := H2.out.obj.cell 0
  have k1 := b0.cell 0
  have k2 := b0.cell 1
  have k3 := b1.cell 0
  have k4 := b1.cell 1
  simp [sCells] at k0 k1 k2 k3 k4
  have q0 := fun n os => cell_grown (w := W2) H2.out.obj.lt k0 n os
  have q1 := fun n os => cell_grown (w := W2) b0.lt k1 n os
  have q2 := fun n os => cell_grown (w := W2) b0.lt k2 n os
  have q3 := fun n os => cell_grown (w := W2) b1.lt k3 n os
  have q4 := fun n os => cell_grown (w := W2) b1.lt k4 n os
  clear k0 k1 k2 k3 k4
  refine wp_region_quiet_tail 8 (by assumption) (by kernel_rfl) ?_
  simp only [List.take_succ_cons, List.take_zero, List.drop_succ_cons, List.drop_zero]
  repeat (quiet_step (first | (go_at_call 24; exact Calls.grown_after (band_any (H2.out.list.after (After.of_grown _ _)) a b ha hb)) | (go_at_call 69; exact Calls.grown_after (span_clip _ _ _ _ _))))
  refine wpQuiet_nil ?_
  rintro _ ⟨p, rfl⟩
  generalize hw5 : grow (W2.drewN p.n) p.os = w5
  have A5 : After W2 w5 := hw5 ▸ After.of_grown _ _
  clear hw5 q0 q1 q2 q3 q4
  have b5 := b2.after A5
  have c5 := b5.cell
  have f5 := b5.frozen
  go_wp2_with fail
  refine bodyPost_ret (v := .agg #[.int .i64 (max c (bandOf fs a b).1), .int .i64 (min d (bandOf fs a b).2)]) ?_ rfl ⟨rfl, ?_⟩
  · have r1 := ((b5.set_ 0 (.int .i64 (max c (bandOf fs a b).1))).set_ 1 (.int .i64 (min d (bandOf fs a b).2))).cell
    unfold bandOf at r1 ⊢
    simp [results, Try.results37, go_sem, r1]
  · exact ((A2.trans A5).setCell (by simp; omega) _).setCell (by simp; omega) _
end

/-! ### Sides, Begin -/
def sideOk (f : Flt) : Bool := decide (f.side = 1 ∨ f.side = 2)
def SidesRel (fs : List Flt) (v : Value) (w wr : World) : Prop := ∃ k : Nat, v = .int .i64 (k : Int) ∧ k ≤ fs.length ∧ fs.all sideOk = (fs.drop k).all sideOk ∧ After w wr

theorem drop_cons {α : Type} {l : List α} {k : Nat} {x : α} (h : l[k]? = some x) : l.drop k = x :: l.drop (k + 1) := by
  obtain ⟨hk, rfl⟩ := List.getElem?_eq_some_iff.1 h
  exact List.drop_eq_getElem_cons hk

theorem law10_sides {w : World} {v : Value} {fs : List Flt} (h : FlsAt w v fs) : Calls Try.prog 26 #[v] w (Ret (.bool (fs.all sideOk)) w) := by
  rcases h with ⟨a0, cap0, rfl, rfl⟩ | ⟨b, o, cap, rfl, hb, ⟨hc, hcm⟩, h⟩
  · go_enter Try.func26, Try.ntmps26
    go_wp2_with fail
    go_loopw [7] (fun v wr => SidesRel [] v w wr) (fun v _ => 1 - (intOf v).toNat)
    case atStart => exact ⟨0, rfl, by decide, rfl, After.refl _⟩
    case round =>
      obtain ⟨k, rfl, hk, hs, hA⟩ := hrel
      have hk0 : k = 0 := by simpa using hk
      subst hk0
      go_wp2_with fail
      go_ret
      exact ⟨rfl, hA⟩
  · have H := Lib.hid h
    clear h
    go_enter Try.func26, Try.ntmps26
    go_wp2_with fail
    go_loopw [7] (fun v wr => SidesRel fs v w wr) (fun v _ => fs.length + 1 - (intOf v).toNat)
    case atStart => exact ⟨0, rfl, Nat.zero_le _, rfl, After.refl _⟩
    case round =>
      obtain ⟨k, rfl, hk, hs, hA⟩ := hrel
      have Hs := Lib.hid hs
      clear hs
      by_cases hlt : k < fs.length
      · obtain ⟨f, hf⟩ : ∃ f, fs[k]? = some f := ⟨_, List.getElem?_eq_getElem hlt⟩
        obtain ⟨c0, c1, c2, c3, c4⟩ := H.out k f hf
        rw [← hA.cell hb] at c0 c1 c2 c3 c4
        have Hd := Lib.hid (drop_cons hf)
        clear hf
        by_cases s1 : f.side = 1
        · have e1 := Lib.hid (show fs.all sideOk = (fs.drop (k + 1)).all sideOk by rw [Hs.out, Hd.out, List.all_cons]; simp [sideOk, s1])
          rw [s1] at c0
          clear s1
          go_wp2_with fail
          go_roundw
          case rel => exact ⟨k + 1, by go_num, by omega, e1.out, hA.alloc _⟩
          case measure => simp [intOf]; omega
        · by_cases s2 : f.side = 2
          · have e1 := Lib.hid (show fs.all sideOk = (fs.drop (k + 1)).all sideOk by rw [Hs.out, Hd.out, List.all_cons]; simp [sideOk, s2])
            rw [s2] at c0
            clear s1 s2
            go_wp2_with fail
            go_roundw
            case rel => exact ⟨k + 1, by go_num, by omega, e1.out, hA.alloc _⟩
            case measure => simp [intOf]; omega
          · have e1 := Lib.hid (show fs.all sideOk = false by rw [Hs.out, Hd.out, List.all_cons]; simp [sideOk, s1, s2])
            have n1 : (f.side != 1) = true := by simpa using s1
            have n2 : (f.side != 2) = true := by simpa using s2
            clear s1 s2
            go_wp2_with fail
            go_ret
            exact ⟨ret_bool e1.out.symm, hA.alloc _⟩
      · have e0 : k = fs.length := by omega
        have e1 := Lib.hid (show fs.all sideOk = true by rw [Hs.out, e0, List.drop_length]; rfl)
        go_wp2_with fail
        go_ret
        exact ⟨ret_bool e1.out.symm, hA⟩

def Begin10Rel (fs : List Flt) (base S : Nat) (v : Value) (w wr : World) : Prop := ∃ k : Nat, v = .int .i64 (k : Int) ∧ k ≤ fs.length ∧ (∃ L g cap fv, SpaceAt wr base S L g cap fv (fs.take k)) ∧ After w wr

set_option maxHeartbeats 2000000 in
theorem law10_begin {w : World} {v : Value} {fs : List Flt} (h : FlsAt w v fs) (hall : fs.all smallF = true) (hsd : fs.all sideOk = true) (hn : fs.length ≤ 100000) : Calls Try.prog 27 #[v] w (SpaceNew w fs) := by
  rcases h with ⟨a0, cap0, rfl, rfl⟩ | ⟨b, o, cap, rfl, hb, ⟨hc, hcm⟩, h⟩
  · go_enter Try.func27, Try.ntmps27
    go_wp2_with fail
    refine (space_new _).mono ?_
    rintro e w1 ⟨S, L, g, cap, fv, rfl, hL, hw1⟩
    go_wp2_with fail
    go_loopw [11] (fun v wr => Begin10Rel [] w.heap.size S v w wr) (fun v _ => 1 - (intOf v).toNat)
    case atStart => exact ⟨0, rfl, by decide, ⟨L, g, cap, fv, hL⟩, hw1⟩
    case round =>
      obtain ⟨k, rfl, hk, ⟨L', g', cap', fv', hL'⟩, hA⟩ := hrel
      have hk0 : k = 0 := by simpa using hk
      subst hk0
      have HL := Lib.hid hL'
      clear hL'
      go_wp2_with fail
      go_ret
      exact ⟨S, L', g', cap', fv', rfl, HL.out, hA⟩
  · have H := Lib.hid h
    have Hall := Lib.hid hall
    have Hsd := Lib.hid hsd
    have hmix := mixed
    clear h hall hsd
    go_enter Try.func27, Try.ntmps27
    go_wp2_with fail
    refine (space_new _).mono ?_
    rintro e w1 ⟨S, L, g, cap1, fv, rfl, hL, hw1⟩
    go_wp2_with fail
    go_loopw [11] (fun v wr => Begin10Rel fs w.heap.size S v w wr) (fun v _ => fs.length + 1 - (intOf v).toNat)
    case atStart => exact ⟨0, rfl, Nat.zero_le _, ⟨L, g, cap1, fv, hL⟩, hw1⟩
    case round =>
      obtain ⟨k, rfl, hk, ⟨L', g', cap', fv', hL'⟩, hA⟩ := hrel
      have HL := Lib.hid hL'
      clear hL'
      by_cases hlt : k < fs.length
      · obtain ⟨f, hf⟩ : ∃ f, fs[k]? = some f := ⟨_, List.getElem?_eq_getElem hlt⟩
        obtain ⟨c0, c1, c2, c3, c4⟩ := H.out k f hf
        rw [← hA.cell hb] at c0 c1 c2 c3 c4
        have Hf := Lib.hid hf
        have Hfs := Lib.hid (List.all_eq_true.1 Hall.out f (List.mem_of_getElem? hf))
        have Hss := Lib.hid (show f.side = 1 ∨ f.side = 2 by have := List.all_eq_true.1 Hsd.out f (List.mem_of_getElem? hf); simpa [sideOk] using this)
        clear hf
        go_wp2_with fail
        refine name_world (fun W2 hW2 => ?_)
        have b2 : Blk W2 wr.heap.size 72 #[.int .i64 f.side, .int .i64 f.l, .int .i64 f.t, .int .i64 f.r, .int .i64 f.b] := by rw [hW2]; exact Blk.new _ _ _
        have A2 : After wr W2 := by rw [hW2]; exact (After.refl _).alloc _
        have HL2 := Lib.hid (HL.out.after A2)
        clear hW2
        have k0 := b2.cell 0
        have k1 := b2.cell 1
        have k2 := b2.cell 2
        have k3 := b2.cell 3
        have k4 := b2.cell 4
        simp at k0 k1 k2 k3 k4
        have q0 := fun n os => cell_grown (w := W2) b2.lt k0 n os
        have q1 := fun n os => cell_grown (w := W2) b2.lt k1 n os
        have q2 := fun n os => cell_grown (w := W2) b2.lt k2 n os
        have q3 := fun n os => cell_grown (w := W2) b2.lt k3 n os
        have q4 := fun n os => cell_grown (w := W2) b2.lt k4 n os
        refine wp_region_quiet_tail 6 (by assumption) (by kernel_rfl) ?_
        simp only [List.take_succ_cons, List.take_zero, List.drop_succ_cons, List.drop_zero]
        repeat (quiet_step ((go_at_call 46; exact Calls.grown_after (law02_of _ _ _ _ _))))
        refine wpQuiet_nil ?_
        rintro _ ⟨p, rfl⟩
        generalize hw3 : grow (W2.drewN p.n) p.os = w3
        have A3 : After W2 w3 := hw3 ▸ After.of_grown _ _
        clear hw3 q0 q1 q2 q3 q4 k0 k1 k2 k3 k4
        have HL3 := Lib.hid (HL2.out.after A3)
        have A03 := Lib.hid (hA.trans (A2.trans A3))
        go_wp2_with fail
        refine (put_any HL3.out (by rw [List.length_take]; omega) f.side f.l f.t f.r f.b Hss.out Hfs.out).mono ?_
        rintro e w4 ⟨rfl, g4, cap4, fv4, hL4, O4, G4⟩
        rw [show ({ side := f.side, l := f.l, t := f.t, r := f.r, b := f.b } : Flt) = f from rfl, ← take_snoc Hf.out] at hL4
        have A04 : After w w4 := ((A03.out.only _).trans O4 (fun _ _ h => h)).after_of (fun k hk hS => by
          have := (HL3.out.owns_lt hS).1
          omega)
        have HL4 := Lib.hid hL4
        have HA4 := Lib.hid A04
        clear hL4 O4 G4 A04
        go_wp2_with fail
        go_roundw
        case rel => exact ⟨k + 1, by go_num, by omega, ⟨L', g4, cap4, fv4, HL4.out⟩, HA4.out⟩
        case measure => simp [intOf]; omega
      · have e0 : k = fs.length := by omega
        go_wp2_with fail
        go_ret
        refine ⟨S, L', g', cap', fv', rfl, ?_, hA⟩
        have := HL.out
        rwa [e0, List.take_length] at this
end Go.Proofs.Ytefbeekjoafijaa
