/- The document's answers that the statements of chapters 09 and 10 ask: counts, Bounds, Band; Last, Bottom, Clear, High, Bounds, Free. -/
import Derived.Test.YtefbeekjoafijaaSpeaks
namespace Go.Proofs.Ytefbeekjoafijaa
open Go.RowKit Go.Sort

theorem snoc_ind0 {α : Type} {motive : List α → Prop} (nil : motive []) (snoc : ∀ l x, motive l → motive (l ++ [x])) : ∀ l, motive l := by
  have key : ∀ l : List α, motive l.reverse := by
    intro l
    induction l with
    | nil => exact nil
    | cons a r ih => rw [List.reverse_cons]; exact snoc _ _ ih
  intro l
  have := key l.reverse
  rwa [List.reverse_reverse] at this

/-- the five cells of a float, at an index -/
def CellsAt (w : World) (b o i : Nat) (f : Flt) : Prop :=
  w.cell? ⟨b, o + i * 5, none⟩ = some (.int .i64 f.side) ∧ w.cell? ⟨b, o + i * 5 + 1, none⟩ = some (.int .i64 f.l) ∧ w.cell? ⟨b, o + i * 5 + 2, none⟩ = some (.int .i64 f.t) ∧
    w.cell? ⟨b, o + i * 5 + 3, none⟩ = some (.int .i64 f.r) ∧ w.cell? ⟨b, o + i * 5 + 4, none⟩ = some (.int .i64 f.b)

theorem FlsAt.split {w : World} {v : Value} {fs : List Flt} (h : FlsAt w v fs) : ∃ a cap, v = .slice a fs.length cap ∧ fs.length ≤ 9223372036854775807 ∧ fs.length ≤ cap ∧
    ∀ i f, fs[i]? = some f → ∃ b o, a = some ⟨b, o, none⟩ ∧ b < w.heap.size ∧ CellsAt w b o i f := by
  rcases h with ⟨a, cap, rfl, rfl⟩ | ⟨b, o, cap, rfl, hb, ⟨hc, hcm⟩, h⟩
  · exact ⟨a, cap, rfl, by decide, Nat.zero_le _, fun i f hf => by simp at hf⟩
  · exact ⟨_, cap, rfl, by omega, hc, fun i f hf => ⟨b, o, rfl, hb, h i f hf⟩⟩

theorem CellsAt.after {w w' : World} {b o i : Nat} {f : Flt} (h : CellsAt w b o i f) (hb : b < w.heap.size) (k : After w w') : CellsAt w' b o i f :=
  ⟨(k.cell hb).trans h.1, (k.cell hb).trans h.2.1, (k.cell hb).trans h.2.2.1, (k.cell hb).trans h.2.2.2.1, (k.cell hb).trans h.2.2.2.2⟩

theorem ref09_counts (f : Flt) (w : World) : Calls Try.prog 94 #[.agg #[.int .i64 f.side, .int .i64 f.l, .int .i64 f.t, .int .i64 f.r, .int .i64 f.b]] w (Ret (.bool (counts f)) w) := by
  obtain ⟨side, l, t, r, b⟩ := f
  dsimp only
  have B0 : ∀ w1, After (w.alloc (.cells #[.int .i64 side, .int .i64 l, .int .i64 t, .int .i64 r, .int .i64 b] 72)) w1 → ∀ i, w1.cell? ⟨w.heap.size, i, none⟩ = (#[.int .i64 side, .int .i64 l, .int .i64 t, .int .i64 r, .int .i64 b] : Array Value)[i]? :=
    fun w1 h => ((Blk.new w _ _).after h).cell
  have HB := Lib.hid B0
  clear B0
  cases hf : fullB l t r b with
  | false =>
    have hc := Lib.hid (show counts ⟨side, l, t, r, b⟩ = false by
      unfold fullB at hf
      unfold counts
      simp only [decide_eq_false_iff_not] at hf ⊢
      intro h; exact hf ⟨h.1, h.2.1⟩)
    have hF := Lib.hid hf
    clear hf
    go_enter Try.func94, Try.ntmps94
    go_wp2_with fail
    refine (ref02_full _ _ _ _ _).mono ?_
    rintro e w1 ⟨rfl, hw1⟩
    rw [hF.out]
    go_wp2
    go_ret
    exact ⟨ret_bool hc.out.symm, ((After.refl _).alloc _).trans hw1⟩
  | true =>
    have hF := Lib.hid hf
    clear hf
    have hc : counts ⟨side, l, t, r, b⟩ = decide (side = 1 ∨ side = 2) := by
      have := hF.out
      unfold fullB at this
      simp only [decide_eq_true_eq] at this
      unfold counts
      simp [this.1, this.2]
    have HC := Lib.hid hc
    clear hc
    by_cases s1 : side = 1
    · subst s1
      go_enter Try.func94, Try.ntmps94
      go_wp2_with fail
      refine (ref02_full _ _ _ _ _).mono ?_
      rintro e w1 ⟨rfl, hw1⟩
      have c1 := HB.out _ hw1
      rw [hF.out]
      go_wp2
      go_ret
      exact ⟨ret_bool (by rw [HC.out]; rfl), ((After.refl _).alloc _).trans hw1⟩
    · have n1 : (side == 1) = false := by simpa using s1
      cases n2 : (side == 2) with
      | true =>
        go_enter Try.func94, Try.ntmps94
        go_wp2_with fail
        refine (ref02_full _ _ _ _ _).mono ?_
        rintro e w1 ⟨rfl, hw1⟩
        have c1 := HB.out _ hw1
        rw [hF.out]
        go_wp2
        go_ret
        exact ⟨ret_bool (by rw [HC.out]; simp at n2; simp [n2]), ((After.refl _).alloc _).trans hw1⟩
      | false =>
        go_enter Try.func94, Try.ntmps94
        go_wp2_with fail
        refine (ref02_full _ _ _ _ _).mono ?_
        rintro e w1 ⟨rfl, hw1⟩
        have c1 := HB.out _ hw1
        rw [hF.out]
        go_wp2
        go_ret
        exact ⟨ret_bool (by rw [HC.out]; simp at n2; simp [n2, s1]), ((After.refl _).alloc _).trans hw1⟩

/-! ### Bounds -/
theorem gOf_take {fs : List Flt} {k : Nat} {f : Flt} (h : fs[k]? = some f) (y : Int) : lftOf (fs.take (k + 1)) y = stepL y (lftOf (fs.take k) y) f ∧ rgtOf (fs.take (k + 1)) y = stepR y (rgtOf (fs.take k) y) f := by
  rw [take_snoc h]
  simp [lftOf, rgtOf]

def BoundsRel (fs : List Flt) (y : Int) (w : World) (v vl vr : Value) (wr : World) : Prop :=
  ∃ k : Nat, v = .int .i64 (k : Int) ∧ k ≤ fs.length ∧ vl = .int .i64 (lftOf (fs.take k) y) ∧ vr = .int .i64 (rgtOf (fs.take k) y) ∧ After w wr

set_option maxRecDepth 100000 in
set_option maxHeartbeats 4000000 in
theorem ref09_bounds {w : World} {v : Value} {fs : List Flt} (h : FlsAt w v fs) (y : Int) :
    Calls Try.prog 73 #[v, .int .i64 y] w (Ret (.tuple #[.int .i64 (gOf fs y).1, .int .i64 (gOf fs y).2]) w) := by
  obtain ⟨a, cap, rfl, hlen, hlc, hcell⟩ := h.split
  have H := Lib.hid hcell
  clear h hcell
  go_enter Try.func73, Try.ntmps73
  go_wp2_with fail
  go_loopw [8, 6, 7] (fun v vl vr wr => BoundsRel fs y w v vl vr wr) (fun v _ _ _ => fs.length + 1 - (intOf v).toNat)
  case atStart => exact ⟨0, rfl, Nat.zero_le _, rfl, rfl, After.refl _⟩
  case round =>
    obtain ⟨k, rfl, hk, rfl, rfl, hA⟩ := hrel
    by_cases hlt : k < fs.length
    · obtain ⟨f, hf⟩ : ∃ f, fs[k]? = some f := ⟨_, List.getElem?_eq_getElem hlt⟩
      obtain ⟨b, o, rfl, hb, hca⟩ := H.out k f hf
      obtain ⟨c0, c1, c2, c3, c4⟩ := hca.after hb hA
      have HT := Lib.hid (gOf_take hf y)
      have B0 : ∀ w1, After (wr.alloc (.cells #[.int .i64 f.l, .int .i64 f.t, .int .i64 f.r, .int .i64 f.b] 70)) w1 → (∀ i, w1.cell? ⟨wr.heap.size, i, none⟩ = (#[.int .i64 f.l, .int .i64 f.t, .int .i64 f.r, .int .i64 f.b] : Array Value)[i]?) :=
        fun w1 h => ((Blk.new wr _ _).after h).cell
      have HB := Lib.hid B0
      have hbr : b < wr.heap.size := Nat.lt_of_lt_of_le hb hA.size
      have Hca := Lib.hid (hca.after hb hA)
      generalize lftOf (fs.take k) y = p at HT ⊢
      generalize rgtOf (fs.take k) y = q at HT ⊢
      clear hf B0 hca
      cases hc : counts f with
      | false =>
        have Hc := Lib.hid hc
        have HE := Lib.hid (show stepL y p f = p ∧ stepR y q f = q from ⟨by unfold stepL; rw [hc]; simp, by unfold stepR; rw [hc]; simp⟩)
        clear hc
        go_wp2_with fail
        refine (ref09_counts f _).mono ?_
        rintro e w1 ⟨rfl, hw1⟩
        rw [Hc.out]
        have A1 := Lib.hid ((hA.alloc _).trans hw1)
        have c1' := HB.out _ hw1
        obtain ⟨d0, d1, d2, d3, d4⟩ := Hca.out.after hbr (((After.refl wr).alloc _).trans hw1)
        clear hw1 c0 c1 c2 c3 c4
        go_wp2_with fail
        go_roundw
        case rel => exact ⟨k + 1, by go_num, by omega, by rw [HT.out.1, HE.out.1], by rw [HT.out.2, HE.out.2], A1.out⟩
        case measure => simp [intOf]; omega
      | true =>
        have hsd : f.side = 1 ∨ f.side = 2 := by unfold counts at hc; simp only [decide_eq_true_eq] at hc; exact hc.2.2
        have Hc := Lib.hid hc
        clear hc
        by_cases h1 : y < f.t
        · clear hsd
          have HE := Lib.hid (show stepL y p f = p ∧ stepR y q f = q from ⟨by unfold stepL; rw [if_neg (by omega)], by unfold stepR; rw [if_neg (by omega)]⟩)
          go_wp2_with fail
          refine (ref09_counts f _).mono ?_
          rintro e w1 ⟨rfl, hw1⟩
          rw [Hc.out]
          have A1 := Lib.hid ((hA.alloc _).trans hw1)
          have c1' := HB.out _ hw1
          obtain ⟨d0, d1, d2, d3, d4⟩ := Hca.out.after hbr (((After.refl wr).alloc _).trans hw1)
          clear hw1 c0 c1 c2 c3 c4
          go_wp2_with fail
          go_roundw
          case rel => exact ⟨k + 1, by go_num, by omega, by rw [HT.out.1, HE.out.1], by rw [HT.out.2, HE.out.2], A1.out⟩
          case measure => simp [intOf]; omega
        · by_cases h2 : f.b ≤ y
          · clear hsd
            have HE := Lib.hid (show stepL y p f = p ∧ stepR y q f = q from ⟨by unfold stepL; rw [if_neg (by omega)], by unfold stepR; rw [if_neg (by omega)]⟩)
            go_wp2_with fail
            refine (ref09_counts f _).mono ?_
            rintro e w1 ⟨rfl, hw1⟩
            rw [Hc.out]
            have A1 := Lib.hid ((hA.alloc _).trans hw1)
            have c1' := HB.out _ hw1
            obtain ⟨d0, d1, d2, d3, d4⟩ := Hca.out.after hbr (((After.refl wr).alloc _).trans hw1)
            clear hw1 c0 c1 c2 c3 c4
            go_wp2_with fail
            go_roundw
            case rel => exact ⟨k + 1, by go_num, by omega, by rw [HT.out.1, HE.out.1], by rw [HT.out.2, HE.out.2], A1.out⟩
            case measure => simp [intOf]; omega
          · rcases hsd with s1 | s2
            · have n1 : (f.side == 1) = true := by simpa using s1
              have n2 : (f.side == 2) = false := by rw [s1]; rfl
              by_cases h3 : p < f.r
              · have HE := Lib.hid (show stepL y p f = f.r ∧ stepR y q f = q from ⟨by unfold stepL; rw [if_pos ⟨Hc.out, by omega, by omega, s1, h3⟩], by unfold stepR; rw [if_neg (by omega)]⟩)
                clear s1
                go_wp2_with fail
                refine (ref09_counts f _).mono ?_
                rintro e w1 ⟨rfl, hw1⟩
                rw [Hc.out]
                have A1 := Lib.hid ((hA.alloc _).trans hw1)
                have c1' := HB.out _ hw1
                obtain ⟨d0, d1, d2, d3, d4⟩ := Hca.out.after hbr (((After.refl wr).alloc _).trans hw1)
                clear hw1 c0 c1 c2 c3 c4
                go_wp2_with fail
                go_roundw
                case rel => exact ⟨k + 1, by go_num, by omega, by rw [HT.out.1, HE.out.1], by rw [HT.out.2, HE.out.2], A1.out⟩
                case measure => simp [intOf]; omega
              · have HE := Lib.hid (show stepL y p f = p ∧ stepR y q f = q from ⟨by unfold stepL; rw [if_neg (by omega)], by unfold stepR; rw [if_neg (by omega)]⟩)
                clear s1
                go_wp2_with fail
                refine (ref09_counts f _).mono ?_
                rintro e w1 ⟨rfl, hw1⟩
                rw [Hc.out]
                have A1 := Lib.hid ((hA.alloc _).trans hw1)
                have c1' := HB.out _ hw1
                obtain ⟨d0, d1, d2, d3, d4⟩ := Hca.out.after hbr (((After.refl wr).alloc _).trans hw1)
                clear hw1 c0 c1 c2 c3 c4
                go_wp2_with fail
                go_roundw
                case rel => exact ⟨k + 1, by go_num, by omega, by rw [HT.out.1, HE.out.1], by rw [HT.out.2, HE.out.2], A1.out⟩
                case measure => simp [intOf]; omega
            · have n1 : (f.side == 1) = false := by rw [s2]; rfl
              have n2 : (f.side == 2) = true := by simpa using s2
              by_cases h3 : f.l < q
              · have HE := Lib.hid (show stepL y p f = p ∧ stepR y q f = f.l from ⟨by unfold stepL; rw [if_neg (by omega)], by unfold stepR; rw [if_pos ⟨Hc.out, by omega, by omega, s2, h3⟩]⟩)
                clear s2
                go_wp2_with fail
                refine (ref09_counts f _).mono ?_
                rintro e w1 ⟨rfl, hw1⟩
                rw [Hc.out]
                have A1 := Lib.hid ((hA.alloc _).trans hw1)
                have c1' := HB.out _ hw1
                obtain ⟨d0, d1, d2, d3, d4⟩ := Hca.out.after hbr (((After.refl wr).alloc _).trans hw1)
                clear hw1 c0 c1 c2 c3 c4
                go_wp2_with fail
                go_roundw
                case rel => exact ⟨k + 1, by go_num, by omega, by rw [HT.out.1, HE.out.1], by rw [HT.out.2, HE.out.2], A1.out⟩
                case measure => simp [intOf]; omega
              · have HE := Lib.hid (show stepL y p f = p ∧ stepR y q f = q from ⟨by unfold stepL; rw [if_neg (by omega)], by unfold stepR; rw [if_neg (by omega)]⟩)
                clear s2
                go_wp2_with fail
                refine (ref09_counts f _).mono ?_
                rintro e w1 ⟨rfl, hw1⟩
                rw [Hc.out]
                have A1 := Lib.hid ((hA.alloc _).trans hw1)
                have c1' := HB.out _ hw1
                obtain ⟨d0, d1, d2, d3, d4⟩ := Hca.out.after hbr (((After.refl wr).alloc _).trans hw1)
                clear hw1 c0 c1 c2 c3 c4
                go_wp2_with fail
                go_roundw
                case rel => exact ⟨k + 1, by go_num, by omega, by rw [HT.out.1, HE.out.1], by rw [HT.out.2, HE.out.2], A1.out⟩
                case measure => simp [intOf]; omega
    · have e0 : k = fs.length := by omega
      subst e0
      rw [List.take_length]
      go_wp2_with fail
      go_ret2
      exact ⟨rfl, hA⟩

/-! ### Band -/
def BandRefRel (fs : List Flt) (a b : Int) (w : World) (v vl vr : Value) (wr : World) : Prop :=
  ∃ k : Nat, v = .int .i64 (k : Int) ∧ k ≤ fs.length ∧ vl = .int .i64 ((fs.take k).foldl (refBandStep fs a b) (gOf fs a)).1 ∧ vr = .int .i64 ((fs.take k).foldl (refBandStep fs a b) (gOf fs a)).2 ∧ After w wr

set_option maxRecDepth 100000 in
set_option maxHeartbeats 4000000 in
theorem ref09_band {w : World} {v : Value} {fs : List Flt} (h : FlsAt w v fs) (a b : Int) :
    Calls Try.prog 74 #[v, .int .i64 a, .int .i64 b] w (Ret (.tuple #[.int .i64 (refBand fs a b).1, .int .i64 (refBand fs a b).2]) w) := by
  obtain ⟨ad, cap, rfl, hlen, hlc, hcell⟩ := h.split
  have H := Lib.hid hcell
  have HV := Lib.hid h
  clear h hcell
  by_cases hab : b ≤ a
  · have e : refBand fs a b = (-Far, Far) := by unfold refBand; rw [if_pos hab]
    rw [e]
    clear e
    go_enter Try.func74, Try.ntmps74
    go_wp2
    go_ret2
    exact ⟨rfl, After.refl _⟩
  · have e := Lib.hid (show refBand fs a b = fs.foldl (refBandStep fs a b) (gOf fs a) by unfold refBand; rw [if_neg hab])
    go_enter Try.func74, Try.ntmps74
    go_wp2_with fail
    refine (ref09_bounds HV.out a).mono ?_
    rintro e1 w1 ⟨rfl, hw1⟩
    go_wp2_with fail
    go_loopw [10, 8, 9] (fun v vl vr wr => BandRefRel fs a b w v vl vr wr) (fun v _ _ _ => fs.length + 1 - (intOf v).toNat)
    case atStart => exact ⟨0, rfl, Nat.zero_le _, rfl, rfl, hw1⟩
    case round =>
      obtain ⟨k, rfl, hk, rfl, rfl, hA⟩ := hrel
      by_cases hlt : k < fs.length
      · obtain ⟨f, hf⟩ : ∃ f, fs[k]? = some f := ⟨_, List.getElem?_eq_getElem hlt⟩
        obtain ⟨b', o, rfl, hb, hca⟩ := H.out k f hf
        obtain ⟨c0, c1, c2, c3, c4⟩ := hca.after hb hA
        have ht : (fs.take (k + 1)).foldl (refBandStep fs a b) (gOf fs a) = refBandStep fs a b ((fs.take k).foldl (refBandStep fs a b) (gOf fs a)) f := by
          rw [take_snoc hf, List.foldl_append]; rfl
        have HT := Lib.hid ht
        generalize (fs.take k).foldl (refBandStep fs a b) (gOf fs a) = acc at HT ⊢
        obtain ⟨p, q⟩ := acc
        dsimp only
        clear hf hca ht
        by_cases h1 : a < f.t
        · by_cases h2 : f.t < b
          · have hgL : ∀ x : Int × Int, x = gOf fs f.t → refBandStep fs a b (p, q) f = (if p < x.1 then x.1 else p, if x.2 < q then x.2 else q) := by
              intro x hx
              subst hx
              unfold refBandStep
              rw [if_pos ⟨h1, h2⟩]
            have HG := Lib.hid (hgL _ rfl)
            have HV2 := Lib.hid (HV.out.after hA)
            clear hgL
            have CB := Lib.hid (ref09_bounds HV2.out f.t)
            generalize gOf fs f.t = x at HG CB
            obtain ⟨xl, xr⟩ := x
            dsimp only at HG CB
            by_cases h3 : p < xl
            · by_cases h4 : xr < q
              · have HS := Lib.hid (show refBandStep fs a b (p, q) f = (xl, xr) by rw [HG.out, if_pos h3, if_pos h4])
                go_wp2_with fail
                refine CB.out.mono ?_
                rintro e2 w2 ⟨rfl, hw2⟩
                go_wp2_with fail
                go_roundw
                case rel => exact ⟨k + 1, by go_num, by omega, by rw [HT.out, HS.out], by rw [HT.out, HS.out], hA.trans hw2⟩
                case measure => simp [intOf]; omega
              · have HS := Lib.hid (show refBandStep fs a b (p, q) f = (xl, q) by rw [HG.out, if_pos h3, if_neg h4])
                go_wp2_with fail
                refine CB.out.mono ?_
                rintro e2 w2 ⟨rfl, hw2⟩
                go_wp2_with fail
                go_roundw
                case rel => exact ⟨k + 1, by go_num, by omega, by rw [HT.out, HS.out], by rw [HT.out, HS.out], hA.trans hw2⟩
                case measure => simp [intOf]; omega
            · by_cases h4 : xr < q
              · have HS := Lib.hid (show refBandStep fs a b (p, q) f = (p, xr) by rw [HG.out, if_neg h3, if_pos h4])
                go_wp2_with fail
                refine CB.out.mono ?_
                rintro e2 w2 ⟨rfl, hw2⟩
                go_wp2_with fail
                go_roundw
                case rel => exact ⟨k + 1, by go_num, by omega, by rw [HT.out, HS.out], by rw [HT.out, HS.out], hA.trans hw2⟩
                case measure => simp [intOf]; omega
              · have HS := Lib.hid (show refBandStep fs a b (p, q) f = (p, q) by rw [HG.out, if_neg h3, if_neg h4])
                go_wp2_with fail
                refine CB.out.mono ?_
                rintro e2 w2 ⟨rfl, hw2⟩
                go_wp2_with fail
                go_roundw
                case rel => exact ⟨k + 1, by go_num, by omega, by rw [HT.out, HS.out], by rw [HT.out, HS.out], hA.trans hw2⟩
                case measure => simp [intOf]; omega
          · have HS := Lib.hid (show refBandStep fs a b (p, q) f = (p, q) by unfold refBandStep; rw [if_neg (by omega)])
            go_wp2_with fail
            go_roundw
            case rel => exact ⟨k + 1, by go_num, by omega, by rw [HT.out, HS.out], by rw [HT.out, HS.out], hA⟩
            case measure => simp [intOf]; omega
        · have HS := Lib.hid (show refBandStep fs a b (p, q) f = (p, q) by unfold refBandStep; rw [if_neg (by omega)])
          go_wp2_with fail
          go_roundw
          case rel => exact ⟨k + 1, by go_num, by omega, by rw [HT.out, HS.out], by rw [HT.out, HS.out], hA⟩
          case measure => simp [intOf]; omega
      · have e0 : k = fs.length := by omega
        subst e0
        rw [List.take_length]
        go_wp2_with fail
        go_ret2
        exact ⟨by rw [e.out]; rfl, hA⟩

/-! ### chapter 10 -/
theorem ref10_high (h : Int) (w : World) : Calls Try.prog 34 #[.int .i64 h] w (Ret (.int .i64 (hi1 h)) w) := by
  by_cases h1 : h < 1
  all_goals
    go_enter Try.func34, Try.ntmps34
    go_wp2
    go_ret
    exact ⟨ret_int (by unfold hi1; omega), After.refl _⟩

theorem ref10_bounds {w : World} {v : Value} {fs : List Flt} (h : FlsAt w v fs) (y z : Int) (hy : Nr y) (hz : Nr z) :
    Calls Try.prog 35 #[v, .int .i64 y, .int .i64 z] w (Ret (.tuple #[.int .i64 (refBand fs y (y + hi1 z)).1, .int .i64 (refBand fs y (y + hi1 z)).2]) w) := by
  obtain ⟨hy1, hy2⟩ := hy
  obtain ⟨hz1, hz2⟩ := hz
  have hb1 : -9007199254740992 ≤ hi1 z := by unfold hi1; omega
  have hb2 : hi1 z ≤ 9007199254740992 := by unfold hi1; omega
  have HV := Lib.hid h
  clear h
  go_enter Try.func35, Try.ntmps35
  go_wp2_with fail
  refine (ref10_high _ _).mono ?_
  rintro e w1 ⟨rfl, hw1⟩
  go_wp2_with fail
  refine (ref09_band (HV.out.after hw1) _ _).mono ?_
  rintro e w2 ⟨rfl, hw2⟩
  go_wp2
  go_ret2
  exact ⟨rfl, hw1.trans hw2⟩

theorem ref10_free {w : World} {v : Value} {fs : List Flt} (h : FlsAt w v fs) (c d y z : Int) (hy : Nr y) (hz : Nr z) :
    Calls Try.prog 29 #[v, .int .i64 c, .int .i64 d, .int .i64 y, .int .i64 z] w (Ret (.tuple #[.int .i64 (max c (refBand fs y (y + hi1 z)).1), .int .i64 (min d (refBand fs y (y + hi1 z)).2)]) w) := by
  have C := Lib.hid (ref10_bounds h y z hy hz)
  clear h
  generalize refBand fs y (y + hi1 z) = x at C ⊢
  obtain ⟨p, q⟩ := x
  dsimp only at C ⊢
  by_cases h1 : p < c
  · by_cases h2 : d < q
    all_goals
      go_enter Try.func29, Try.ntmps29
      go_wp2_with fail
      refine C.out.mono ?_
      rintro e w1 ⟨rfl, hw1⟩
      go_wp2
      go_ret2
      refine ⟨?_, hw1⟩
      rw [show max c p = c by omega]
    · rw [show min d q = d by omega]; rfl
    · rw [show min d q = q by omega]; rfl
  · by_cases h2 : d < q
    all_goals
      go_enter Try.func29, Try.ntmps29
      go_wp2_with fail
      refine C.out.mono ?_
      rintro e w1 ⟨rfl, hw1⟩
      go_wp2
      go_ret2
      refine ⟨?_, hw1⟩
      rw [show max c p = p by omega]
    · rw [show min d q = d by omega]; rfl
    · rw [show min d q = q by omega]; rfl

/-! ### what is told of tops and bottoms -/
theorem lastOf_some : ∀ fs : List Flt, (lastOf fs).isSome = decide (0 < fs.length) := by
  intro fs
  induction fs using snoc_ind0 with
  | nil => rfl
  | snoc l f _ =>
    rw [lastOf_snoc]
    cases lastOf l <;> simp [reachE]

def LastRel (fs : List Flt) (w : World) (v vn : Value) (wr : World) : Prop :=
  ∃ k : Nat, v = .int .i64 (k : Int) ∧ k ≤ fs.length ∧ vn = .int .i64 (eAt (lastOf (fs.take k))) ∧ wr = w

set_option maxHeartbeats 2000000 in
theorem ref10_last {w : World} {v : Value} {fs : List Flt} (h : FlsAt w v fs) : Calls Try.prog 49 #[v] w (Ret (.tuple #[.int .i64 (eAt (lastOf fs)), .bool (lastOf fs).isSome]) w) := by
  obtain ⟨ad, cap, rfl, hlen, hlc, hcell⟩ := h.split
  have H := Lib.hid hcell
  have hI := Lib.hid (lastOf_some fs)
  clear h hcell
  go_enter Try.func49, Try.ntmps49
  go_wp2_with fail
  go_loopw [5, 4] (fun v vn wr => LastRel fs w v vn wr) (fun v _ _ => fs.length + 1 - (intOf v).toNat)
  case atStart => exact ⟨0, rfl, Nat.zero_le _, rfl, rfl⟩
  case round =>
    obtain ⟨k, rfl, hk, rfl, rfl⟩ := hrel
    by_cases hlt : k < fs.length
    · obtain ⟨f, hf⟩ : ∃ f, fs[k]? = some f := ⟨_, List.getElem?_eq_getElem hlt⟩
      obtain ⟨b, o, rfl, hb, c0, c1, c2, c3, c4⟩ := H.out k f hf
      have HT := Lib.hid (show lastOf (fs.take (k + 1)) = reachE (lastOf (fs.take k)) f.t by rw [take_snoc hf, lastOf_snoc])
      have hsome := lastOf_some (fs.take k)
      rw [List.length_take, Nat.min_eq_left hk] at hsome
      clear hf
      by_cases hk0 : k = 0
      · subst hk0
        have hz : lastOf (fs.take 0) = none := by rw [List.take_zero]; rfl
        rw [hz] at HT ⊢
        have HT2 := Lib.hid (show eAt (lastOf (fs.take (0 + 1))) = f.t by rw [HT.out]; rfl)
        clear hz hsome
        go_wp2_with fail
        go_roundw
        case rel => exact ⟨0 + 1, by go_num, by omega, by rw [HT2.out], rfl⟩
        case measure => simp [intOf] <;> omega
      · have hkb : ((k : Int) == 0) = false := by rw [beq_eq_false_iff_ne]; omega
        have hpos : decide (0 < k) = true := by rw [decide_eq_true_eq]; omega
        rw [hpos] at hsome
        obtain ⟨n, hn⟩ := Option.isSome_iff_exists.1 hsome
        rw [hn] at HT ⊢
        show _
        clear hsome hpos hn
        by_cases h1 : n < f.t
        · have HT2 := Lib.hid (show eAt (lastOf (fs.take (k + 1))) = f.t by rw [HT.out]; simp [reachE, h1, eAt])
          simp only [eAt, Option.getD_some]
          go_wp2_with fail
          go_roundw
          case rel => exact ⟨k + 1, by go_num, by omega, by rw [HT2.out], rfl⟩
          case measure => simp [intOf]; omega
        · have HT2 := Lib.hid (show eAt (lastOf (fs.take (k + 1))) = n by rw [HT.out]; simp [reachE, h1, eAt])
          simp only [eAt, Option.getD_some]
          go_wp2_with fail
          go_roundw
          case rel => exact ⟨k + 1, by go_num, by omega, by rw [HT2.out], rfl⟩
          case measure => simp [intOf]; omega
    · have e0 : k = fs.length := by omega
      subst e0
      rw [List.take_length]
      by_cases hp : 0 < fs.length
      · have HI := Lib.hid (show (lastOf fs).isSome = true by rw [hI.out]; simpa using hp)
        go_wp2_with fail
        go_ret2
        exact ⟨by rw [HI.out]; rfl, After.refl _⟩
      · have HI := Lib.hid (show (lastOf fs).isSome = false by rw [hI.out]; simpa using hp)
        go_wp2_with fail
        go_ret2
        exact ⟨by rw [HI.out]; rfl, After.refl _⟩

theorem ref10_cleared (c s : Int) (w : World) : Calls Try.prog 80 #[.int .i64 c, .int .i64 s] w (Ret (.bool (clearsB c s)) w) := by
  by_cases h3 : c = 3
  · subst h3
    go_enter Try.func80, Try.ntmps80
    go_wp2
    go_ret
    exact ⟨rfl, After.refl _⟩
  · have n3 : (c == 3) = false := by simpa using h3
    by_cases h0 : c = 0
    · subst h0
      go_enter Try.func80, Try.ntmps80
      go_wp2
      go_ret
      exact ⟨ret_bool (by simp [clearsB]), After.refl _⟩
    · have n0 : (c != 0) = true := by simpa using h0
      have HC := Lib.hid (show clearsB c s = (c == s) by unfold clearsB; rw [Bool.eq_iff_iff]; simp [h3, h0])
      clear h3 h0
      go_enter Try.func80, Try.ntmps80
      go_wp2
      go_ret
      exact ⟨ret_bool HC.out.symm, After.refl _⟩

def BotRel (c : Int) (fs : List Flt) (w : World) (v vn vf : Value) (wr : World) : Prop :=
  ∃ k : Nat, v = .int .i64 (k : Int) ∧ k ≤ fs.length ∧ vn = .int .i64 (eAt (botOf c (fs.take k))) ∧ vf = .bool (botOf c (fs.take k)).isSome ∧ After w wr

set_option maxHeartbeats 4000000 in
theorem ref10_bottom {w : World} {v : Value} {fs : List Flt} (h : FlsAt w v fs) (c : Int) : Calls Try.prog 51 #[v, .int .i64 c] w (Ret (.tuple #[.int .i64 (eAt (botOf c fs)), .bool (botOf c fs).isSome]) w) := by
  obtain ⟨ad, cap, rfl, hlen, hlc, hcell⟩ := h.split
  have H := Lib.hid hcell
  clear h hcell
  go_enter Try.func51, Try.ntmps51
  go_wp2_with fail
  go_loopw [8, 6, 7] (fun v vn vf wr => BotRel c fs w v vn vf wr) (fun v _ _ _ => fs.length + 1 - (intOf v).toNat)
  case atStart => exact ⟨0, rfl, Nat.zero_le _, rfl, rfl, After.refl _⟩
  case round =>
    obtain ⟨k, rfl, hk, rfl, rfl, hA⟩ := hrel
    by_cases hlt : k < fs.length
    · obtain ⟨f, hf⟩ : ∃ f, fs[k]? = some f := ⟨_, List.getElem?_eq_getElem hlt⟩
      obtain ⟨b, o, rfl, hb, hca⟩ := H.out k f hf
      obtain ⟨c0, c1, c2, c3, c4⟩ := hca.after hb hA
      have HT := Lib.hid (show botOf c (fs.take (k + 1)) = if clearsB c f.side then reachE (botOf c (fs.take k)) f.b else botOf c (fs.take k) by rw [take_snoc hf, botOf_snoc])
      have Hca := Lib.hid (hca.after hb hA)
      have hbr : b < wr.heap.size := Nat.lt_of_lt_of_le hb hA.size
      generalize botOf c (fs.take k) = e at HT ⊢
      clear hf hca
      cases hcl : clearsB c f.side with
      | false =>
        have HT2 := Lib.hid (show botOf c (fs.take (k + 1)) = e by rw [HT.out, hcl]; rfl)
        have Hcl := Lib.hid hcl
        clear hcl
        go_wp2_with fail
        refine (ref10_cleared _ _ _).mono ?_
        rintro e1 w1 ⟨rfl, hw1⟩
        rw [Hcl.out]
        go_wp2_with fail
        go_roundw
        case rel => exact ⟨k + 1, by go_num, by omega, by rw [HT2.out], by rw [HT2.out], hA.trans hw1⟩
        case measure => simp [intOf]; omega
      | true =>
        have HT2 := Lib.hid (show botOf c (fs.take (k + 1)) = reachE e f.b by rw [HT.out, hcl]; rfl)
        have Hcl := Lib.hid hcl
        clear hcl HT
        cases e with
        | none =>
          have HT3 := Lib.hid (show botOf c (fs.take (k + 1)) = some f.b by rw [HT2.out]; rfl)
          simp only [eAt, Option.getD_none, Option.isSome_none]
          go_wp2_with fail
          refine (ref10_cleared _ _ _).mono ?_
          rintro e1 w1 ⟨rfl, hw1⟩
          rw [Hcl.out]
          obtain ⟨d0, d1, d2, d3, d4⟩ := Hca.out.after hbr hw1
          clear c0 c1 c2 c3 c4
          go_wp2_with fail
          go_roundw
          case rel => exact ⟨k + 1, by go_num, by omega, by rw [HT3.out]; rfl, by rw [HT3.out]; rfl, hA.trans hw1⟩
          case measure => simp [intOf]; omega
        | some n =>
          simp only [eAt, Option.getD_some, Option.isSome_some]
          by_cases h1 : n < f.b
          · have HT3 := Lib.hid (show botOf c (fs.take (k + 1)) = some f.b by rw [HT2.out]; simp [reachE, h1])
            go_wp2_with fail
            refine (ref10_cleared _ _ _).mono ?_
            rintro e1 w1 ⟨rfl, hw1⟩
            rw [Hcl.out]
            obtain ⟨d0, d1, d2, d3, d4⟩ := Hca.out.after hbr hw1
            clear c0 c1 c2 c3 c4
            go_wp2_with fail
            go_roundw
            case rel => exact ⟨k + 1, by go_num, by omega, by rw [HT3.out]; rfl, by rw [HT3.out]; rfl, hA.trans hw1⟩
            case measure => simp [intOf]; omega
          · have HT3 := Lib.hid (show botOf c (fs.take (k + 1)) = some n by rw [HT2.out]; simp [reachE, h1])
            go_wp2_with fail
            refine (ref10_cleared _ _ _).mono ?_
            rintro e1 w1 ⟨rfl, hw1⟩
            rw [Hcl.out]
            obtain ⟨d0, d1, d2, d3, d4⟩ := Hca.out.after hbr hw1
            clear c0 c1 c2 c3 c4
            go_wp2_with fail
            go_roundw
            case rel => exact ⟨k + 1, by go_num, by omega, by rw [HT3.out]; rfl, by rw [HT3.out]; rfl, hA.trans hw1⟩
            case measure => simp [intOf]; omega
    · have e0 : k = fs.length := by omega
      subst e0
      rw [List.take_length]
      go_wp2_with fail
      go_ret2
      exact ⟨rfl, hA⟩

def clearRef (c y : Int) (fs : List Flt) : Int := match botOf c fs with | none => y | some b => max y b

theorem ref10_clear {w : World} {v : Value} {fs : List Flt} (h : FlsAt w v fs) (c y : Int) : Calls Try.prog 52 #[v, .int .i64 c, .int .i64 y] w (Ret (.int .i64 (clearRef c y fs)) w) := by
  have hB := ref10_bottom h c
  clear h
  unfold clearRef
  cases hb : botOf c fs with
  | none =>
    rw [hb] at hB
    have HB := Lib.hid hB
    clear hb hB
    dsimp only
    go_enter Try.func52, Try.ntmps52
    go_wp2_with fail
    refine HB.out.mono ?_
    rintro e w1 ⟨rfl, hw1⟩
    simp only [Option.isSome_none, eAt, Option.getD_none]
    go_wp2
    go_ret
    exact ⟨rfl, hw1⟩
  | some b =>
    rw [hb] at hB
    have HB := Lib.hid hB
    clear hb hB
    dsimp only
    by_cases h1 : y < b
    · rw [show max y b = b by omega]
      go_enter Try.func52, Try.ntmps52
      go_wp2_with fail
      refine HB.out.mono ?_
      rintro e w1 ⟨rfl, hw1⟩
      simp only [Option.isSome_some, eAt, Option.getD_some]
      go_wp2
      go_ret
      exact ⟨rfl, hw1⟩
    · rw [show max y b = y by omega]
      go_enter Try.func52, Try.ntmps52
      go_wp2_with fail
      refine HB.out.mono ?_
      rintro e w1 ⟨rfl, hw1⟩
      simp only [Option.isSome_some, eAt, Option.getD_some]
      go_wp2
      go_ret
      exact ⟨rfl, hw1⟩
end Go.Proofs.Ytefbeekjoafijaa
