/- Wants and floats that may be: Right, Near, Of, begin of chapter 12. -/
import Derived.Test.YtefbeekjoafijaaTold
namespace Go.Proofs.Ytefbeekjoafijaa
open Go.RowKit Go.Sort

/-! ### Near -/
def in49 (x : Int) : Bool := decide (-562949953421312 ≤ x ∧ x ≤ 562949953421312)
def near4 (f : Flt) : List Int := [f.l, f.t, f.r, f.b]
def nearF (f : Flt) : Bool := (near4 f).all in49 && sideOk f

theorem nearF_small {f : Flt} (h : nearF f = true) : smallF f = true ∧ sideOk f = true := by
  unfold nearF near4 at h
  simp [in49] at h
  refine ⟨?_, h.2⟩
  unfold smallF small4
  simp [in1]
  omega

def NearRel (fs : List Flt) (w : World) (v : Value) (wr : World) : Prop := ∃ k : Nat, v = .int .i64 (k : Int) ∧ k ≤ fs.length ∧ fs.all nearF = (fs.drop k).all nearF ∧ wr = w
def NearIn (f : Flt) (w : World) (v : Value) (wr : World) : Prop := ∃ j : Nat, v = .int .i64 (j : Int) ∧ j ≤ 4 ∧ (near4 f).all in49 = ((near4 f).drop j).all in49 ∧ wr = w

set_option maxRecDepth 100000 in
set_option maxHeartbeats 4000000 in
theorem ref11_near {w : World} {v : Value} {fs : List Flt} (h : FlsAt w v fs) : Calls Try.prog 75 #[v] w (Ret (.bool (fs.all nearF)) w) := by
  obtain ⟨ad, cap, rfl, hlen, hlc, hcell⟩ := h.split
  have H := Lib.hid hcell
  clear h hcell
  go_enter Try.func75, Try.ntmps75
  go_wp2_with fail
  go_loopw [3] (fun v wr => NearRel fs w v wr) (fun v _ => fs.length + 1 - (intOf v).toNat)
  case atStart => exact ⟨0, rfl, Nat.zero_le _, rfl, rfl⟩
  case round =>
    obtain ⟨k, rfl, hk, hs, rfl⟩ := hrel
    have Hs := Lib.hid hs
    clear hs
    by_cases hlt : k < fs.length
    · obtain ⟨f, hf⟩ : ∃ f, fs[k]? = some f := ⟨_, List.getElem?_eq_getElem hlt⟩
      obtain ⟨b, o, rfl, hb, c0, c1, c2, c3, c4⟩ := H.out k f hf
      have Hd := Lib.hid (drop_cons hf)
      have hst : ∀ j : Nat, 0 ≤ (j : Int) := fun j => by omega
      clear hf
      go_wp2_with fail
      obtain ⟨wo, hwo⟩ : ∃ wo : World, wo = wr := ⟨_, rfl⟩
      go_loopw [4] (fun v wi => NearIn f wr v wi) (fun v _ => 5 - (intOf v).toNat)
      case atStart => exact ⟨0, rfl, by decide, rfl, rfl⟩
      case round =>
        obtain ⟨j, rfl, hj, hi, rfl⟩ := hrel
        have Hi := Lib.hid hi
        clear hi hst
        rcases (show j = 0 ∨ j = 1 ∨ j = 2 ∨ j = 3 ∨ j = 4 by omega) with rfl | rfl | rfl | rfl | rfl
        · cases hin : in49 f.l with
          | true =>
            have hin' := hin
            unfold in49 at hin'
            simp only [decide_eq_true_eq] at hin'
            have e1 : ¬ 562949953421312 < f.l := by omega
            have e2 : ¬ f.l < -562949953421312 := by omega
            have E3 := Lib.hid (show (near4 f).all in49 = ((near4 f).drop 1).all in49 by rw [Hi.out]; simp [near4, hin])
            clear hin hin'
            go_wp2_with fail
            go_roundw
            case rel => exact ⟨1, rfl, by decide, E3.out, rfl⟩
            case measure => decide
          | false =>
            have E3 := Lib.hid (show fs.all nearF = false by rw [Hs.out, Hd.out, List.all_cons, nearF, Hi.out]; simp [near4, hin])
            unfold in49 at hin
            simp only [decide_eq_false_iff_not] at hin
            by_cases e1 : 562949953421312 < f.l
            · go_wp2_with fail
              go_ret
              exact ⟨ret_bool E3.out.symm, After.refl _⟩
            · have e2 : f.l < -562949953421312 := by omega
              go_wp2_with fail
              go_ret
              exact ⟨ret_bool E3.out.symm, After.refl _⟩
        · cases hin : in49 f.t with
          | true =>
            have hin' := hin
            unfold in49 at hin'
            simp only [decide_eq_true_eq] at hin'
            have e1 : ¬ 562949953421312 < f.t := by omega
            have e2 : ¬ f.t < -562949953421312 := by omega
            have E3 := Lib.hid (show (near4 f).all in49 = ((near4 f).drop 2).all in49 by rw [Hi.out]; simp [near4, hin])
            clear hin hin'
            go_wp2_with fail
            go_roundw
            case rel => exact ⟨2, rfl, by decide, E3.out, rfl⟩
            case measure => decide
          | false =>
            have E3 := Lib.hid (show fs.all nearF = false by rw [Hs.out, Hd.out, List.all_cons, nearF, Hi.out]; simp [near4, hin])
            unfold in49 at hin
            simp only [decide_eq_false_iff_not] at hin
            by_cases e1 : 562949953421312 < f.t
            · go_wp2_with fail
              go_ret
              exact ⟨ret_bool E3.out.symm, After.refl _⟩
            · have e2 : f.t < -562949953421312 := by omega
              go_wp2_with fail
              go_ret
              exact ⟨ret_bool E3.out.symm, After.refl _⟩
        · cases hin : in49 f.r with
          | true =>
            have hin' := hin
            unfold in49 at hin'
            simp only [decide_eq_true_eq] at hin'
            have e1 : ¬ 562949953421312 < f.r := by omega
            have e2 : ¬ f.r < -562949953421312 := by omega
            have E3 := Lib.hid (show (near4 f).all in49 = ((near4 f).drop 3).all in49 by rw [Hi.out]; simp [near4, hin])
            clear hin hin'
            go_wp2_with fail
            go_roundw
            case rel => exact ⟨3, rfl, by decide, E3.out, rfl⟩
            case measure => decide
          | false =>
            have E3 := Lib.hid (show fs.all nearF = false by rw [Hs.out, Hd.out, List.all_cons, nearF, Hi.out]; simp [near4, hin])
            unfold in49 at hin
            simp only [decide_eq_false_iff_not] at hin
            by_cases e1 : 562949953421312 < f.r
            · go_wp2_with fail
              go_ret
              exact ⟨ret_bool E3.out.symm, After.refl _⟩
            · have e2 : f.r < -562949953421312 := by omega
              go_wp2_with fail
              go_ret
              exact ⟨ret_bool E3.out.symm, After.refl _⟩
        · cases hin : in49 f.b with
          | true =>
            have hin' := hin
            unfold in49 at hin'
            simp only [decide_eq_true_eq] at hin'
            have e1 : ¬ 562949953421312 < f.b := by omega
            have e2 : ¬ f.b < -562949953421312 := by omega
            have E3 := Lib.hid (show (near4 f).all in49 = ((near4 f).drop 4).all in49 by rw [Hi.out]; simp [near4, hin])
            clear hin hin'
            go_wp2_with fail
            go_roundw
            case rel => exact ⟨4, rfl, by decide, E3.out, rfl⟩
            case measure => decide
          | false =>
            have E3 := Lib.hid (show fs.all nearF = false by rw [Hs.out, Hd.out, List.all_cons, nearF, Hi.out]; simp [near4, hin])
            unfold in49 at hin
            simp only [decide_eq_false_iff_not] at hin
            by_cases e1 : 562949953421312 < f.b
            · go_wp2_with fail
              go_ret
              exact ⟨ret_bool E3.out.symm, After.refl _⟩
            · have e2 : f.b < -562949953421312 := by omega
              go_wp2_with fail
              go_ret
              exact ⟨ret_bool E3.out.symm, After.refl _⟩
        · have E4 := Lib.hid (show (near4 f).all in49 = true by rw [Hi.out]; rfl)
          by_cases s1 : f.side = 1
          · have E3 := Lib.hid (show fs.all nearF = (fs.drop (k + 1)).all nearF by rw [Hs.out, Hd.out, List.all_cons, nearF, E4.out]; simp [sideOk, s1])
            rw [s1] at c0
            clear s1
            go_wp2_with fail
            go_roundw
            case rel => exact ⟨k + 1, by go_num, by omega, E3.out, rfl⟩
            case measure => simp [intOf]; omega
          · by_cases s2 : f.side = 2
            · have E3 := Lib.hid (show fs.all nearF = (fs.drop (k + 1)).all nearF by rw [Hs.out, Hd.out, List.all_cons, nearF, E4.out]; simp [sideOk, s2])
              rw [s2] at c0
              clear s1 s2
              go_wp2_with fail
              go_roundw
              case rel => exact ⟨k + 1, by go_num, by omega, E3.out, rfl⟩
              case measure => simp [intOf]; omega
            · have E3 := Lib.hid (show fs.all nearF = false by rw [Hs.out, Hd.out, List.all_cons, nearF, E4.out]; simp [sideOk, s1, s2])
              have n1 : (f.side != 1) = true := by simpa using s1
              have n2 : (f.side != 2) = true := by simpa using s2
              clear s1 s2
              go_wp2_with fail
              go_ret
              exact ⟨ret_bool E3.out.symm, After.refl _⟩
    · have e0 : k = fs.length := by omega
      have E3 := Lib.hid (show fs.all nearF = true by rw [Hs.out, e0, List.drop_length]; rfl)
      go_wp2_with fail
      go_ret
      exact ⟨ret_bool E3.out.symm, After.refl _⟩

/-! ### wants of boxes -/
structure AW where
  a : Int
  b : Int
  wd : Int
  ht : Int
  y : Int
def AW.v (q : AW) : Value := .agg #[.int .i64 q.a, .int .i64 q.b, .int .i64 q.wd, .int .i64 q.ht, .int .i64 q.y]

theorem law12_of (a b c d e : Int) (w : World) :
    Calls Try.prog 42 #[.agg #[.int .i64 a, .int .i64 b, .int .i64 c, .int .i64 d, .int .i64 e]] w (Ret (.agg #[.int .i64 a, .int .i64 b, .int .i64 c, .int .i64 d, .int .i64 e]) w) := by
  go_enter Try.func42, Try.ntmps42
  go_wp2
  exact bodyPost_ret (v := .agg #[.int .i64 a, .int .i64 b, .int .i64 c, .int .i64 d, .int .i64 e]) (by simp [results, Try.results42, go_sem]) rfl ⟨rfl, ((After.refl _).alloc _).alloc _⟩

def in48 (x : Int) : Bool := decide (-281474976710656 ≤ x ∧ x ≤ 281474976710656)
def rightA (a b c d e : Int) : Bool := [a, b, c, d, e].all in48 && decide (0 ≤ c)
def RightRel (l : List Int) (v : Value) (w wr : World) : Prop := ∃ k : Nat, v = .int .i64 (k : Int) ∧ k ≤ 5 ∧ l.all in48 = (l.drop k).all in48 ∧ wr = w

set_option maxHeartbeats 4000000 in
theorem ref12_right (a b c d e : Int) (w : World) :
    Calls Try.prog 40 #[.agg #[.int .i64 a, .int .i64 b, .int .i64 c, .int .i64 d, .int .i64 e]] w (Ret (.bool (rightA a b c d e)) w) := by
  go_enter Try.func40, Try.ntmps40
  go_wp2_with fail
  refine name_world (fun W4 hW4 => ?_)
  have b4 : Blk W4 (w.heap.size + 1) 3 #[.int .i64 a, .int .i64 b, .int .i64 c, .int .i64 d, .int .i64 e] := by
    rw [hW4]
    have := Blk.new (w.alloc (.cells #[.int .i64 a, .int .i64 b, .int .i64 c, .int .i64 d, .int .i64 e] 55)) 3 #[.int .i64 a, .int .i64 b, .int .i64 c, .int .i64 d, .int .i64 e]
    rwa [World.size_alloc] at this
  have b5 : Blk W4 w.heap.size 55 #[.int .i64 a, .int .i64 b, .int .i64 c, .int .i64 d, .int .i64 e] := by rw [hW4]; exact (Blk.new w _ _).alloc _
  have A4 : After w W4 := by rw [hW4]; exact ((After.refl _).alloc _).alloc _
  have k0 := b4.cell 0
  have k1 := b4.cell 1
  have k2 := b4.cell 2
  have k3 := b4.cell 3
  have k4 := b4.cell 4
  have k5 := b5.cell 2
  simp at k0 k1 k2 k3 k4 k5
  clear hW4
  go_loopw [17] (fun v wr => RightRel [a, b, c, d, e] v W4 wr) (fun v _ => 6 - (intOf v).toNat)
  case atStart => exact ⟨0, rfl, by decide, rfl, rfl⟩
  case round =>
    obtain ⟨k, rfl, hk, hs, rfl⟩ := hrel
    have Hs := Lib.hid hs
    clear hs
    rcases (show k = 0 ∨ k = 1 ∨ k = 2 ∨ k = 3 ∨ k = 4 ∨ k = 5 by omega) with rfl | rfl | rfl | rfl | rfl | rfl
    · cases hin : in48 a with
      | true =>
        have hin' := hin
        unfold in48 at hin'
        simp only [decide_eq_true_eq] at hin'
        have e1 : ¬ 281474976710656 < a := by omega
        have e2 : ¬ a < -281474976710656 := by omega
        have E3 := Lib.hid (show [a, b, c, d, e].all in48 = ([a, b, c, d, e].drop 1).all in48 by rw [Hs.out]; simp [hin])
        clear hin hin'
        go_wp2_with fail
        go_roundw
        case rel => exact ⟨1, rfl, by decide, E3.out, rfl⟩
        case measure => decide
      | false =>
        have E3 := Lib.hid (show rightA a b c d e = false by unfold rightA; rw [Hs.out]; simp [hin])
        unfold in48 at hin
        simp only [decide_eq_false_iff_not] at hin
        by_cases e1 : 281474976710656 < a
        · go_wp2_with fail
          go_ret
          exact ⟨ret_bool E3.out.symm, A4⟩
        · have e2 : a < -281474976710656 := by omega
          go_wp2_with fail
          go_ret
          exact ⟨ret_bool E3.out.symm, A4⟩
    · cases hin : in48 b with
      | true =>
        have hin' := hin
        unfold in48 at hin'
        simp only [decide_eq_true_eq] at hin'
        have e1 : ¬ 281474976710656 < b := by omega
        have e2 : ¬ b < -281474976710656 := by omega
        have E3 := Lib.hid (show [a, b, c, d, e].all in48 = ([a, b, c, d, e].drop 2).all in48 by rw [Hs.out]; simp [hin])
        clear hin hin'
        go_wp2_with fail
        go_roundw
        case rel => exact ⟨2, rfl, by decide, E3.out, rfl⟩
        case measure => decide
      | false =>
        have E3 := Lib.hid (show rightA a b c d e = false by unfold rightA; rw [Hs.out]; simp [hin])
        unfold in48 at hin
        simp only [decide_eq_false_iff_not] at hin
        by_cases e1 : 281474976710656 < b
        · go_wp2_with fail
          go_ret
          exact ⟨ret_bool E3.out.symm, A4⟩
        · have e2 : b < -281474976710656 := by omega
          go_wp2_with fail
          go_ret
          exact ⟨ret_bool E3.out.symm, A4⟩
    · cases hin : in48 c with
      | true =>
        have hin' := hin
        unfold in48 at hin'
        simp only [decide_eq_true_eq] at hin'
        have e1 : ¬ 281474976710656 < c := by omega
        have e2 : ¬ c < -281474976710656 := by omega
        have E3 := Lib.hid (show [a, b, c, d, e].all in48 = ([a, b, c, d, e].drop 3).all in48 by rw [Hs.out]; simp [hin])
        clear hin hin'
        go_wp2_with fail
        go_roundw
        case rel => exact ⟨3, rfl, by decide, E3.out, rfl⟩
        case measure => decide
      | false =>
        have E3 := Lib.hid (show rightA a b c d e = false by unfold rightA; rw [Hs.out]; simp [hin])
        unfold in48 at hin
        simp only [decide_eq_false_iff_not] at hin
        by_cases e1 : 281474976710656 < c
        · go_wp2_with fail
          go_ret
          exact ⟨ret_bool E3.out.symm, A4⟩
        · have e2 : c < -281474976710656 := by omega
          go_wp2_with fail
          go_ret
          exact ⟨ret_bool E3.out.symm, A4⟩
    · cases hin : in48 d with
      | true =>
        have hin' := hin
        unfold in48 at hin'
        simp only [decide_eq_true_eq] at hin'
        have e1 : ¬ 281474976710656 < d := by omega
        have e2 : ¬ d < -281474976710656 := by omega
        have E3 := Lib.hid (show [a, b, c, d, e].all in48 = ([a, b, c, d, e].drop 4).all in48 by rw [Hs.out]; simp [hin])
        clear hin hin'
        go_wp2_with fail
        go_roundw
        case rel => exact ⟨4, rfl, by decide, E3.out, rfl⟩
        case measure => decide
      | false =>
        have E3 := Lib.hid (show rightA a b c d e = false by unfold rightA; rw [Hs.out]; simp [hin])
        unfold in48 at hin
        simp only [decide_eq_false_iff_not] at hin
        by_cases e1 : 281474976710656 < d
        · go_wp2_with fail
          go_ret
          exact ⟨ret_bool E3.out.symm, A4⟩
        · have e2 : d < -281474976710656 := by omega
          go_wp2_with fail
          go_ret
          exact ⟨ret_bool E3.out.symm, A4⟩
    · cases hin : in48 e with
      | true =>
        have hin' := hin
        unfold in48 at hin'
        simp only [decide_eq_true_eq] at hin'
        have e1 : ¬ 281474976710656 < e := by omega
        have e2 : ¬ e < -281474976710656 := by omega
        have E3 := Lib.hid (show [a, b, c, d, e].all in48 = ([a, b, c, d, e].drop 5).all in48 by rw [Hs.out]; simp [hin])
        clear hin hin'
        go_wp2_with fail
        go_roundw
        case rel => exact ⟨5, rfl, by decide, E3.out, rfl⟩
        case measure => decide
      | false =>
        have E3 := Lib.hid (show rightA a b c d e = false by unfold rightA; rw [Hs.out]; simp [hin])
        unfold in48 at hin
        simp only [decide_eq_false_iff_not] at hin
        by_cases e1 : 281474976710656 < e
        · go_wp2_with fail
          go_ret
          exact ⟨ret_bool E3.out.symm, A4⟩
        · have e2 : e < -281474976710656 := by omega
          go_wp2_with fail
          go_ret
          exact ⟨ret_bool E3.out.symm, A4⟩
    · have E3 := Lib.hid (show rightA a b c d e = decide (0 ≤ c) by unfold rightA; rw [Hs.out]; simp)
      go_wp2_with fail
      go_ret
      exact ⟨ret_bool E3.out.symm, A4⟩

/-! ### begin -/
theorem SpaceAt.lowr {w : World} {base base' S L g cap : Nat} {fv : Value} {fs : List Flt} (h : SpaceAt w base S L g cap fv fs) (hb : base' ≤ base) : SpaceAt w base' S L g cap fv fs := by
  have low : ∀ {t : TypeId} {size : Nat} {v : Value} {n : Nat} {xs : List Value}, w.ownsRow base t size v n xs → w.ownsRow base' t size v n xs := by
    intro t size v n xs h
    refine ⟨h.1, ?_⟩
    rcases h.2 with h | ⟨g, c, cur, a, b, r⟩
    · exact .inl h
    · exact .inr ⟨g, c, cur, a, Nat.le_trans hb b, r⟩
  exact ⟨h.obj, ⟨h.list.obj, low h.list.row, Nat.le_trans hb h.list.low, h.list.ne, h.list.rising, h.list.small⟩, low h.row, Nat.le_trans hb h.low, h.nil⟩

def nearB (fs : List Flt) (most : Int) : Bool := fs.all nearF && decide ((fs.length : Int) ≤ most)
def Begin12Post (w : World) (fs : List Flt) (most : Int) (e : Ending) (w' : World) : Prop :=
  (nearB fs most = false ∧ e = .returned (.pointer none) ∧ After w w') ∨ (nearB fs most = true ∧ SpaceNew w fs e w')

theorem all_small {fs : List Flt} (h : fs.all nearF = true) : fs.all smallF = true ∧ fs.all sideOk = true := by
  constructor <;> (rw [List.all_eq_true] at h ⊢; intro f hf)
  · exact (nearF_small (h f hf)).1
  · exact (nearF_small (h f hf)).2

theorem law12_begin {w : World} {v : Value} {fs : List Flt} (h : FlsAt w v fs) (most : Int) (hm : most ≤ 1000) : Calls Try.prog 38 #[v, .int .i64 most] w (Begin12Post w fs most) := by
  obtain ⟨ad, cap, rfl, hlen, hlc, hcell⟩ := h.split
  have HV := Lib.hid h
  clear h hcell
  cases hn : fs.all nearF with
  | false =>
    have hN := Lib.hid hn
    clear hn
    go_enter Try.func38, Try.ntmps38
    go_wp2_with fail
    refine (ref11_near HV.out).mono ?_
    rintro e w1 ⟨rfl, hw1⟩
    rw [hN.out]
    go_wp2
    go_ret
    exact .inl ⟨by unfold nearB; rw [hN.out]; rfl, rfl, hw1⟩
  | true =>
    have hN := Lib.hid hn
    clear hn
    by_cases hl : most < (fs.length : Int)
    · go_enter Try.func38, Try.ntmps38
      go_wp2_with fail
      refine (ref11_near HV.out).mono ?_
      rintro e w1 ⟨rfl, hw1⟩
      rw [hN.out]
      go_wp2
      go_ret
      exact .inl ⟨by unfold nearB; rw [hN.out]; simp; omega, rfl, hw1⟩
    · go_enter Try.func38, Try.ntmps38
      go_wp2_with fail
      refine (ref11_near HV.out).mono ?_
      rintro e w1 ⟨rfl, hw1⟩
      rw [hN.out]
      go_wp2_with fail
      refine (law10_begin (HV.out.after hw1) (all_small hN.out).1 (all_small hN.out).2 (by omega)).mono ?_
      rintro e w2 ⟨S, L, g, cap2, fv, rfl, hs, hw2⟩
      have HS := Lib.hid hs
      clear hs
      go_wp2
      go_ret
      refine .inr ⟨by unfold nearB; rw [hN.out]; simp; omega, S, L, g, cap2, fv, rfl, HS.out.lowr hw1.size, hw1.trans hw2⟩
end Go.Proofs.Ytefbeekjoafijaa
