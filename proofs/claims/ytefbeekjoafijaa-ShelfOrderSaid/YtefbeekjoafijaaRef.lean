/- The statements' own small words on floats: Small, Few, begin (chapter 09). -/
import Derived.Test.YtefbeekjoafijaaMake
namespace Go.Proofs.Ytefbeekjoafijaa
open Go.RowKit Go.Sort

/-! ### floats in memory -/
def flCells (f : Flt) : List Value := [.int .i64 f.side, .int .i64 f.l, .int .i64 f.t, .int .i64 f.r, .int .i64 f.b]
/-- a slice of the reference's floats, wherever it lies -/
def FlsAt (w : World) (v : Value) (fs : List Flt) : Prop :=
  (∃ a cap, v = .slice a 0 cap ∧ fs = []) ∨ ∃ b o cap, v = .slice (some ⟨b, o, none⟩) fs.length cap ∧ b < w.heap.size ∧ (fs.length ≤ cap ∧ cap ≤ 9223372036854775807) ∧
    ∀ i f, fs[i]? = some f → w.cell? ⟨b, o + i * 5, none⟩ = some (.int .i64 f.side) ∧ w.cell? ⟨b, o + i * 5 + 1, none⟩ = some (.int .i64 f.l) ∧ w.cell? ⟨b, o + i * 5 + 2, none⟩ = some (.int .i64 f.t) ∧
      w.cell? ⟨b, o + i * 5 + 3, none⟩ = some (.int .i64 f.r) ∧ w.cell? ⟨b, o + i * 5 + 4, none⟩ = some (.int .i64 f.b)

theorem FlsAt.after {w w' : World} {v : Value} {fs : List Flt} (h : FlsAt w v fs) (k : After w w') : FlsAt w' v fs := by
  rcases h with h | ⟨b, o, cap, rfl, hb, hc, h⟩
  · exact .inl h
  · refine .inr ⟨b, o, cap, rfl, Nat.lt_of_lt_of_le hb k.size, hc, fun i f hf => ?_⟩
    obtain ⟨a0, a1, a2, a3, a4⟩ := h i f hf
    exact ⟨(k.cell hb).trans a0, (k.cell hb).trans a1, (k.cell hb).trans a2, (k.cell hb).trans a3, (k.cell hb).trans a4⟩

def in1 (x : Int) : Bool := decide (-2251799813685248 < x ∧ x < 2251799813685248)
def small4 (l t r b : Int) : Bool := [l, t, r, b].all in1
def smallF (f : Flt) : Bool := small4 f.l f.t f.r f.b

def SmallRel (l t r b : Int) (v : Value) (w wr : World) : Prop := ∃ k : Nat, v = .int .i64 (k : Int) ∧ k ≤ 4 ∧ small4 l t r b = ([l, t, r, b].drop k).all in1 ∧ wr = w

theorem ref09_small (l t r b : Int) (w : World) :
    Calls Try.prog 21 #[.agg #[.int .i64 l, .int .i64 t, .int .i64 r, .int .i64 b]] w (Ret (.bool (small4 l t r b)) w) := by
  have b0 := Blk.new w 70 #[.int .i64 l, .int .i64 t, .int .i64 r, .int .i64 b]
  have A0 := (After.refl w).alloc (.cells #[.int .i64 l, .int .i64 t, .int .i64 r, .int .i64 b] 70)
  have k0 := b0.cell 0
  have k1 := b0.cell 1
  have k2 := b0.cell 2
  have k3 := b0.cell 3
  simp at k0 k1 k2 k3
  clear b0
  have HA := Lib.hid A0
  clear A0
  go_enter Try.func21, Try.ntmps21
  go_wp2_with fail
  go_loopw [3] (fun v wr => SmallRel l t r b v (w.alloc (.cells #[.int .i64 l, .int .i64 t, .int .i64 r, .int .i64 b] 70)) wr) (fun v _ => 5 - (intOf v).toNat)
  case atStart => exact ⟨0, rfl, by decide, rfl, rfl⟩
  case round =>
    obtain ⟨k, rfl, hk, hs, rfl⟩ := hrel
    have Hs := Lib.hid hs
    clear hs
    rcases (show k = 0 ∨ k = 1 ∨ k = 2 ∨ k = 3 ∨ k = 4 by omega) with rfl | rfl | rfl | rfl | rfl
    · cases hin : in1 l with
      | true =>
        have hin' := hin
        unfold in1 at hin'
        simp only [decide_eq_true_eq] at hin'
        have e1 : ¬ l ≤ -2251799813685248 := by omega
        have e2 : ¬ 2251799813685248 ≤ l := by omega
        go_wp2_with fail
        go_roundw
        case rel => exact ⟨1, rfl, by decide, by rw [Hs.out]; simp [hin], rfl⟩
        case measure => decide
      | false =>
        have hin' := hin
        unfold in1 at hin'
        simp only [decide_eq_false_iff_not] at hin'
        have hsm := Lib.hid (show small4 l t r b = false by rw [Hs.out]; simp [hin])
        by_cases e1 : l ≤ -2251799813685248
        · go_wp2_with fail
          go_ret
          exact ⟨ret_bool hsm.out.symm, HA.out⟩
        · have e2 : 2251799813685248 ≤ l := by omega
          go_wp2_with fail
          go_ret
          exact ⟨ret_bool hsm.out.symm, HA.out⟩
    · cases hin : in1 t with
      | true =>
        have hin' := hin
        unfold in1 at hin'
        simp only [decide_eq_true_eq] at hin'
        have e1 : ¬ t ≤ -2251799813685248 := by omega
        have e2 : ¬ 2251799813685248 ≤ t := by omega
        go_wp2_with fail
        go_roundw
        case rel => exact ⟨2, rfl, by decide, by rw [Hs.out]; simp [hin], rfl⟩
        case measure => decide
      | false =>
        have hin' := hin
        unfold in1 at hin'
        simp only [decide_eq_false_iff_not] at hin'
        have hsm := Lib.hid (show small4 l t r b = false by rw [Hs.out]; simp [hin])
        by_cases e1 : t ≤ -2251799813685248
        · go_wp2_with fail
          go_ret
          exact ⟨ret_bool hsm.out.symm, HA.out⟩
        · have e2 : 2251799813685248 ≤ t := by omega
          go_wp2_with fail
          go_ret
          exact ⟨ret_bool hsm.out.symm, HA.out⟩
    · cases hin : in1 r with
      | true =>
        have hin' := hin
        unfold in1 at hin'
        simp only [decide_eq_true_eq] at hin'
        have e1 : ¬ r ≤ -2251799813685248 := by omega
        have e2 : ¬ 2251799813685248 ≤ r := by omega
        go_wp2_with fail
        go_roundw
        case rel => exact ⟨3, rfl, by decide, by rw [Hs.out]; simp [hin], rfl⟩
        case measure => decide
      | false =>
        have hin' := hin
        unfold in1 at hin'
        simp only [decide_eq_false_iff_not] at hin'
        have hsm := Lib.hid (show small4 l t r b = false by rw [Hs.out]; simp [hin])
        by_cases e1 : r ≤ -2251799813685248
        · go_wp2_with fail
          go_ret
          exact ⟨ret_bool hsm.out.symm, HA.out⟩
        · have e2 : 2251799813685248 ≤ r := by omega
          go_wp2_with fail
          go_ret
          exact ⟨ret_bool hsm.out.symm, HA.out⟩
    · cases hin : in1 b with
      | true =>
        have hin' := hin
        unfold in1 at hin'
        simp only [decide_eq_true_eq] at hin'
        have e1 : ¬ b ≤ -2251799813685248 := by omega
        have e2 : ¬ 2251799813685248 ≤ b := by omega
        go_wp2_with fail
        go_roundw
        case rel => exact ⟨4, rfl, by decide, by rw [Hs.out]; simp [hin], rfl⟩
        case measure => decide
      | false =>
        have hin' := hin
        unfold in1 at hin'
        simp only [decide_eq_false_iff_not] at hin'
        have hsm := Lib.hid (show small4 l t r b = false by rw [Hs.out]; simp [hin])
        by_cases e1 : b ≤ -2251799813685248
        · go_wp2_with fail
          go_ret
          exact ⟨ret_bool hsm.out.symm, HA.out⟩
        · have e2 : 2251799813685248 ≤ b := by omega
          go_wp2_with fail
          go_ret
          exact ⟨ret_bool hsm.out.symm, HA.out⟩
    · have hsm := Lib.hid (show small4 l t r b = true by rw [Hs.out]; rfl)
      go_wp2_with fail
      go_ret
      exact ⟨ret_bool hsm.out.symm, HA.out⟩

def fewB (fs : List Flt) (most : Int) : Bool := fs.all smallF && decide ((fs.length : Int) ≤ most)

def FewRel (fs : List Flt) (v : Value) (w wr : World) : Prop := ∃ k : Nat, v = .int .i64 (k : Int) ∧ k ≤ fs.length ∧ fs.all smallF = (fs.drop k).all smallF ∧ After w wr

theorem law09_few {w : World} {v : Value} {fs : List Flt} (h : FlsAt w v fs) (most : Int) : Calls Try.prog 20 #[v, .int .i64 most] w (Ret (.bool (fewB fs most)) w) := by
  rcases h with ⟨a0, cap0, rfl, rfl⟩ | ⟨b, o, cap, rfl, hb, ⟨hc, hcm⟩, h⟩
  · by_cases hm : 0 ≤ most
    all_goals
      go_enter Try.func20, Try.ntmps20
      go_wp2_with fail
      go_loopw [9] (fun v wr => FewRel [] v w wr) (fun v _ => 1 - (intOf v).toNat)
      case atStart => exact ⟨0, rfl, by decide, rfl, After.refl _⟩
      case round =>
        obtain ⟨k, rfl, hk, hs, hA⟩ := hrel
        have hk0 : k = 0 := by simpa using hk
        subst hk0
        go_wp2_with fail
        go_ret
        exact ⟨ret_bool (by simp [fewB, hm]), hA⟩
  · have H := Lib.hid h
    clear h
    by_cases hm : (fs.length : Int) ≤ most
    all_goals
      go_enter Try.func20, Try.ntmps20
      go_wp2_with fail
      go_loopw [9] (fun v wr => FewRel fs v w wr) (fun v _ => fs.length + 1 - (intOf v).toNat)
      case atStart => exact ⟨0, rfl, Nat.zero_le _, rfl, After.refl _⟩
      case round =>
        obtain ⟨k, rfl, hk, hs, hA⟩ := hrel
        have Hs := Lib.hid hs
        clear hs
        by_cases hlt : k < fs.length
        · obtain ⟨f, hf⟩ : ∃ f, fs[k]? = some f := ⟨_, List.getElem?_eq_getElem hlt⟩
          obtain ⟨c0, c1, c2, c3, c4⟩ := H.out k f hf
          rw [← hA.cell hb] at c0 c1 c2 c3 c4
          have hd : fs.drop k = f :: fs.drop (k + 1) := by
            rw [List.drop_eq_getElem_cons hlt]
            obtain ⟨_, rfl⟩ := List.getElem?_eq_some_iff.1 hf
            rfl
          have Hd := Lib.hid hd
          clear hd hf
          go_wp2_with fail
          refine (ref09_small _ _ _ _ _).mono ?_
          rintro e w1 ⟨rfl, hw1⟩
          have A1 := (hA.alloc _).trans hw1
          have HA1 := Lib.hid A1
          clear A1 hw1
          cases hsm : small4 f.l f.t f.r f.b with
          | true =>
            have e1 : fs.all smallF = (fs.drop (k + 1)).all smallF := by rw [Hs.out, Hd.out, List.all_cons, smallF, hsm]; rfl
            have E1 := Lib.hid e1
            clear e1
            go_wp2_with fail
            go_roundw
            case rel => exact ⟨k + 1, by go_num, by omega, E1.out, HA1.out⟩
            case measure => simp [intOf]; omega
          | false =>
            have e1 : fs.all smallF = false := by rw [Hs.out, Hd.out, List.all_cons, smallF, hsm]; rfl
            have E1 := Lib.hid e1
            clear e1
            go_wp2_with fail
            go_ret
            exact ⟨ret_bool (by unfold fewB; rw [E1.out]; rfl), HA1.out⟩
        · have e0 : k = fs.length := by omega
          have e1 : fs.all smallF = true := by rw [Hs.out, e0, List.drop_length]; rfl
          have E1 := Lib.hid e1
          clear e1
          go_wp2_with fail
          go_ret
          exact ⟨ret_bool (by unfold fewB; rw [E1.out]; simp [hm]), hA⟩

/-! ### the shelves of a list -/
theorem addS_len (xs : List Sh) (f : Flt) : (addS xs f).length ≤ xs.length + 2 := by
  unfold addS
  split
  · have h1 := compactS_len ((cutS f.b (cutS f.t xs)).map (putS f))
    have h2 := cutS_len f.b (cutS f.t xs)
    have h3 := cutS_len f.t xs
    rw [List.length_map] at h1
    omega
  · omega
theorem foldl_addS_len (fs : List Flt) : ∀ xs : List Sh, (fs.foldl addS xs).length ≤ xs.length + 2 * fs.length := by
  induction fs with
  | nil => intro xs; simp
  | cons f fs ih =>
    intro xs
    have := ih (addS xs f)
    have := addS_len xs f
    rw [List.foldl_cons, List.length_cons]; omega
theorem shelvesOf_len (fs : List Flt) : (shelvesOf fs).length ≤ 1 + 2 * fs.length := by
  have := foldl_addS_len fs newS
  exact this
theorem foldl_addS_head (fs : List Flt) : ∀ (s : Sh) (r : List Sh), ∃ s' q, fs.foldl addS (s :: r) = s' :: q ∧ s'.top = s.top := by
  induction fs with
  | nil => intro s r; exact ⟨s, r, rfl, rfl⟩
  | cons f fs ih =>
    intro s r
    obtain ⟨s1, q1, h1, h2⟩ := addS_head (s :: r) f s r rfl
    obtain ⟨s2, q2, h3, h4⟩ := ih s1 q1
    exact ⟨s2, q2, by rw [List.foldl_cons, h1, h3], h4.trans h2⟩
theorem shelvesOf_head (fs : List Flt) : ∃ s, (shelvesOf fs).head? = some s ∧ s.top = -Far := by
  obtain ⟨s, q, h, e⟩ := foldl_addS_head fs ⟨-Far, -Far, Far⟩ []
  exact ⟨s, by unfold shelvesOf newS; rw [h]; rfl, e⟩
theorem shelvesOf_snoc (fs : List Flt) (f : Flt) : shelvesOf (fs ++ [f]) = addS (shelvesOf fs) f := by simp [shelvesOf]
theorem take_snoc {α : Type} {l : List α} {k : Nat} {x : α} (h : l[k]? = some x) : l.take (k + 1) = l.take k ++ [x] := by
  obtain ⟨hk, rfl⟩ := List.getElem?_eq_some_iff.1 h
  rw [List.take_succ_eq_append_getElem hk]
theorem smallF_nr {f : Flt} (h : smallF f = true) : (Nr f.l ∧ Nr f.t ∧ Nr f.r ∧ Nr f.b) ∧ -Far ≤ f.t := by
  unfold smallF small4 at h
  simp [in1] at h
  unfold Nr Far
  omega

/-- Add, to the shelves of floats -/
theorem add_next {w : World} {base L g cap : Nat} {fs : List Flt} (h : ListAt w base L g cap (shelvesOf fs)) (hn : fs.length ≤ 100000) (f : Flt) (hf : smallF f = true) :
    Calls Try.prog 65 #[.pointer (some ⟨L, 0, none⟩), .int .i64 f.side, .agg #[.int .i64 f.l, .int .i64 f.t, .int .i64 f.r, .int .i64 f.b]] w (AddPost w base L g (shelvesOf (fs ++ [f]))) := by
  obtain ⟨⟨h1, h2, h3, h4⟩, h5⟩ := smallF_nr hf
  obtain ⟨s, hs, ht⟩ := shelvesOf_head fs
  have := shelvesOf_len fs
  rw [shelvesOf_snoc]
  exact add_any h (by omega) f h1 h2 h3 h4 s hs (by omega)

def BeginPost (w : World) (fs : List Flt) (e : Ending) (w' : World) : Prop :=
  ∃ L g cap, e = .returned (.pointer (some ⟨L, 0, none⟩)) ∧ ListAt w' w.heap.size L g cap (shelvesOf fs) ∧ After w w'

def BeginRel (fs : List Flt) (base L : Nat) (v : Value) (w wr : World) : Prop := ∃ k : Nat, v = .int .i64 (k : Int) ∧ k ≤ fs.length ∧ (∃ g cap, ListAt wr base L g cap (shelvesOf (fs.take k))) ∧ After w wr

set_option maxHeartbeats 2000000 in
theorem law09_begin {w : World} {v : Value} {fs : List Flt} (h : FlsAt w v fs) (hall : fs.all smallF = true) (hn : fs.length ≤ 100000) : Calls Try.prog 22 #[v] w (BeginPost w fs) := by
  rcases h with ⟨a0, cap0, rfl, rfl⟩ | ⟨b, o, cap, rfl, hb, ⟨hc, hcm⟩, h⟩
  · go_enter Try.func22, Try.ntmps22
    go_wp2_with fail
    refine (shelf_new _).mono ?_
    rintro e w1 ⟨L, g, cap, rfl, hL, hw1⟩
    go_wp2_with fail
    go_loopw [11] (fun v wr => BeginRel [] w.heap.size L v w wr) (fun v _ => 1 - (intOf v).toNat)
    case atStart => exact ⟨0, rfl, by decide, ⟨g, cap, hL⟩, hw1⟩
    case round =>
      obtain ⟨k, rfl, hk, ⟨g', cap', hL'⟩, hA⟩ := hrel
      have hk0 : k = 0 := by simpa using hk
      subst hk0
      have HL := Lib.hid hL'
      clear hL'
      go_wp2_with fail
      go_ret
      exact ⟨L, g', cap', rfl, HL.out, hA⟩
  · have H := Lib.hid h
    have Hall := Lib.hid hall
    have hmix := mixed
    clear h hall
    go_enter Try.func22, Try.ntmps22
    go_wp2_with fail
    refine (shelf_new _).mono ?_
    rintro e w1 ⟨L, g, cap1, rfl, hL, hw1⟩
    go_wp2_with fail
    go_loopw [11] (fun v wr => BeginRel fs w.heap.size L v w wr) (fun v _ => fs.length + 1 - (intOf v).toNat)
    case atStart => exact ⟨0, rfl, Nat.zero_le _, ⟨g, cap1, hL⟩, hw1⟩
    case round =>
      obtain ⟨k, rfl, hk, ⟨g', cap', hL'⟩, hA⟩ := hrel
      have HL := Lib.hid hL'
      clear hL'
      by_cases hlt : k < fs.length
      · obtain ⟨f, hf⟩ : ∃ f, fs[k]? = some f := ⟨_, List.getElem?_eq_getElem hlt⟩
        obtain ⟨c0, c1, c2, c3, c4⟩ := H.out k f hf
        rw [← hA.cell hb] at c0 c1 c2 c3 c4
        have hfs : smallF f = true := List.all_eq_true.1 Hall.out f (List.mem_of_getElem? hf)
        have Hf := Lib.hid hf
        have Hfs := Lib.hid hfs
        clear hf hfs
        go_wp2_with fail
        refine name_world (fun W2 hW2 => ?_)
        have b2 : Blk W2 wr.heap.size 72 #[.int .i64 f.side, .int .i64 f.l, .int .i64 f.t, .int .i64 f.r, .int .i64 f.b] := by rw [hW2]; exact Blk.new _ _ _
        have A2 : After wr W2 := by rw [hW2]; exact (After.refl _).alloc _
        have HL2 := Lib.hid (HL.out.after A2)
        clear hW2
        have k0 := b2.cell 0
        have k1 := b2.cell 1
        have k2 := b2.cell 2
        have k3 := b2.cell 3
        have k4 := b2.cell 4
        simp at k0 k1 k2 k3 k4
        have q0 := fun n os => cell_grown (w := W2) b2.lt k0 n os
        have q1 := fun n os => cell_grown (w := W2) b2.lt k1 n os
        have q2 := fun n os => cell_grown (w := W2) b2.lt k2 n os
        have q3 := fun n os => cell_grown (w := W2) b2.lt k3 n os
        have q4 := fun n os => cell_grown (w := W2) b2.lt k4 n os
        refine wp_region_quiet_tail 6 (by assumption) (by kernel_rfl) ?_
        simp only [List.take_succ_cons, List.take_zero, List.drop_succ_cons, List.drop_zero]
        repeat (quiet_step ((go_at_call 46; exact Calls.grown_after (law02_of _ _ _ _ _))))
        refine wpQuiet_nil ?_
        rintro _ ⟨p, rfl⟩
        generalize hw3 : grow (W2.drewN p.n) p.os = w3
        have A3 : After W2 w3 := hw3 ▸ After.of_grown _ _
        clear hw3 q0 q1 q2 q3 q4 k0 k1 k2 k3 k4
        have HL3 := Lib.hid (HL2.out.after A3)
        have A03 := Lib.hid (hA.trans (A2.trans A3))
        go_wp2_with fail
        refine (add_next HL3.out (by rw [List.length_take]; omega) f Hfs.out).mono ?_
        rintro e w4 ⟨rfl, g4, cap4, hL4, O4, G4⟩
        rw [← take_snoc Hf.out] at hL4
        have A04 : After w w4 := (((A03.out).only (fun k => k = L ∨ k = g')).trans O4 (fun _ _ h => h)).after_of (fun k hk hS => by
          have h1 := HL3.out.low
          have h2 := (HL3.out.row.lt g' rfl).1
          rcases hS with h | h <;> omega)
        have HL4 := Lib.hid hL4
        have HA4 := Lib.hid A04
        clear hL4 O4 G4 A04
        go_wp2_with fail
        go_roundw
        case rel => exact ⟨k + 1, by go_num, by omega, ⟨g4, cap4, HL4.out⟩, HA4.out⟩
        case measure => simp [intOf]; omega
      · have e0 : k = fs.length := by omega
        go_wp2_with fail
        go_ret
        refine ⟨L, g', cap', rfl, ?_, hA⟩
        have := HL.out
        rwa [e0, List.take_length] at this
end Go.Proofs.Ytefbeekjoafijaa
