/- Contracts of the small functions: spans, rectangles, comparisons. -/
import Derived.Test.YtefbeekjoafijaaW
import Derived.Test.YtefbeekjoafijaaPlain
import Derived.Test.YtefbeekjoafijaaProg
namespace Go.Proofs.Ytefbeekjoafijaa
open Go.RowKit Go.Sort

theorem span_len (a b : Int) (w : World) (ha : -9007199254740992 ≤ a) (ha' : a ≤ 9007199254740992) (hb : -9007199254740992 ≤ b) (hb' : b ≤ 9007199254740992) :
    Calls Try.prog 67 #[.agg #[.int .i64 a, .int .i64 b]] w (Ret (.int .i64 (b - a)) w) := by
  go_enter Try.func67, Try.ntmps67
  go_wp2
  go_ret
  exact ⟨rfl, (After.refl _).alloc _⟩

theorem span_clip (a b c d : Int) (w : World) :
    Calls Try.prog 69 #[.agg #[.int .i64 a, .int .i64 b], .agg #[.int .i64 c, .int .i64 d]] w (Ret (.agg #[.int .i64 (max a c), .int .i64 (min b d)]) w) := by
  go_enter Try.func69, Try.ntmps69
  go_wp2
  all_goals exact bodyPost_ret (v := .agg #[.int .i64 (max a c), .int .i64 (min b d)]) (by simp [results, Try.results69, go_sem]; omega) rfl ⟨rfl, (((After.refl _).alloc _).alloc _).alloc _⟩

def cmp3 (a b : Int) : Int := if a < b then -1 else if b < a then 1 else 0

theorem compare (a b : Int) (w : World) :
    Calls Try.prog 92 #[.int .i64 a, .int .i64 b] w (Ret (.int .i64 (cmp3 a b)) w) := by
  go_enter Try.func92, Try.ntmps92
  go_wp2
  all_goals (go_ret; exact ⟨ret_int (by unfold cmp3; split <;> (try split) <;> omega), After.refl _⟩)

theorem find1 (t l r y : Int) (w : World) :
    Calls Try.prog 91 #[.agg #[.int .i64 t, .int .i64 l, .int .i64 r], .int .i64 y] w (Ret (.int .i64 (cmp3 t y)) w) := by
  go_enter Try.func91, Try.ntmps91
  go_wp2_with (go_at_call 92; refine (compare _ _ _).mono ?_; rintro e w' ⟨rfl, hw⟩)
  go_ret
  exact ⟨rfl, ((After.refl _).alloc _).trans hw⟩

theorem after1 (t l r y : Int) (w : World) :
    Calls Try.prog 93 #[.agg #[.int .i64 t, .int .i64 l, .int .i64 r], .int .i64 y] w (Ret (.int .i64 (cmp3 t y)) w) := by
  go_enter Try.func93, Try.ntmps93
  go_wp2_with (go_at_call 92; refine (compare _ _ _).mono ?_; rintro e w' ⟨rfl, hw⟩)
  go_ret
  exact ⟨rfl, ((After.refl _).alloc _).trans hw⟩

def sameLR (l r l' r' : Int) : Bool := decide (l = l' ∧ r = r')

theorem add1 (t l r t' l' r' : Int) (w : World) :
    Calls Try.prog 89 #[.agg #[.int .i64 t, .int .i64 l, .int .i64 r], .agg #[.int .i64 t', .int .i64 l', .int .i64 r']] w (Ret (.bool (sameLR l r l' r')) w) := by
  go_enter Try.func89, Try.ntmps89
  go_wp2
  all_goals (go_ret; refine ⟨ret_bool ?_, ((After.refl _).alloc _).alloc _⟩)
  all_goals (unfold sameLR; rw [Bool.eq_iff_iff]; simp; try omega)

theorem columns (l t r b : Int) (w : World) :
    Calls Try.prog 95 #[.agg #[.int .i64 l, .int .i64 t, .int .i64 r, .int .i64 b]] w (Ret (.agg #[.int .i64 l, .int .i64 r]) w) := by
  go_enter Try.func95, Try.ntmps95
  go_wp2
  exact bodyPost_ret (v := .agg #[.int .i64 l, .int .i64 r]) (by simp [results, Try.results95, go_sem]) rfl ⟨rfl, ((After.refl _).alloc _).alloc _⟩

theorem rows (l t r b : Int) (w : World) :
    Calls Try.prog 96 #[.agg #[.int .i64 l, .int .i64 t, .int .i64 r, .int .i64 b]] w (Ret (.agg #[.int .i64 t, .int .i64 b]) w) := by
  go_enter Try.func96, Try.ntmps96
  go_wp2
  exact bodyPost_ret (v := .agg #[.int .i64 t, .int .i64 b]) (by simp [results, Try.results96, go_sem]) rfl ⟨rfl, ((After.refl _).alloc _).alloc _⟩

theorem rect_of (l t r b : Int) (w : World) :
    Calls Try.prog 77 #[.agg #[.int .i64 l, .int .i64 r], .agg #[.int .i64 t, .int .i64 b]] w (Ret (.agg #[.int .i64 l, .int .i64 t, .int .i64 r, .int .i64 b]) w) := by
  go_enter Try.func77, Try.ntmps77
  go_wp2
  exact bodyPost_ret (v := .agg #[.int .i64 l, .int .i64 t, .int .i64 r, .int .i64 b]) (by simp [results, Try.results77, go_sem]) rfl ⟨rfl, (((After.refl _).alloc _).alloc _).alloc _⟩

theorem law02_of (l t r b : Int) (w : World) :
    Calls Try.prog 46 #[.agg #[.int .i64 l, .int .i64 t, .int .i64 r, .int .i64 b]] w (Ret (.agg #[.int .i64 l, .int .i64 t, .int .i64 r, .int .i64 b]) w) := by
  go_enter Try.func46, Try.ntmps46
  go_wp2
  exact bodyPost_ret (v := .agg #[.int .i64 l, .int .i64 t, .int .i64 r, .int .i64 b]) (by simp [results, Try.results46, go_sem]) rfl ⟨rfl, ((After.refl _).alloc _).alloc _⟩

theorem space_rows (y z : Int) (w : World) (hy : -9007199254740992 ≤ y) (hy' : y ≤ 9007199254740992) (hz : -9007199254740992 ≤ z) (hz' : z ≤ 9007199254740992) :
    Calls Try.prog 33 #[.int .i64 y, .int .i64 z] w (Ret (.agg #[.int .i64 y, .int .i64 (y + hi1 z)]) w) := by
  go_enter Try.func33, Try.ntmps33
  go_wp2
  all_goals exact bodyPost_ret (v := .agg #[.int .i64 y, .int .i64 (y + hi1 z)]) (by simp [results, Try.results33, go_sem, hi1]; omega) rfl ⟨rfl, (After.refl _).alloc _⟩

def fullB (l t r b : Int) : Bool := decide (l < r ∧ t < b)

/-- numbers that are not too far away -/
def Nr (x : Int) : Prop := -9007199254740992 ≤ x ∧ x ≤ 9007199254740992

theorem rect_full (l t r b : Int) (w : World) (hl : Nr l) (ht : Nr t) (hr : Nr r) (hb : Nr b) :
    Calls Try.prog 82 #[.agg #[.int .i64 l, .int .i64 t, .int .i64 r, .int .i64 b]] w (Ret (.bool (fullB l t r b)) w) := by
  obtain ⟨hl1, hl2⟩ := hl
  obtain ⟨hr1, hr2⟩ := hr
  obtain ⟨ht1, ht2⟩ := ht
  obtain ⟨hb1, hb2⟩ := hb
  have B0 : ∀ w1, After (w.alloc (.cells #[.int .i64 l, .int .i64 t, .int .i64 r, .int .i64 b] 59)) w1 → ∀ i, w1.cell? ⟨w.heap.size, i, none⟩ = (#[.int .i64 l, .int .i64 t, .int .i64 r, .int .i64 b] : Array Value)[i]? :=
    fun w1 h => ((Blk.new w _ _).after h).cell
  have HB := Lib.hid B0
  clear B0
  by_cases h1 : l < r
  all_goals
    go_enter Try.func82, Try.ntmps82
    go_wp2_with fail
    refine (columns _ _ _ _ _).mono ?_
    rintro e w1 ⟨rfl, hw1⟩
    go_wp2_with fail
    refine (span_len _ _ _ hl1 hl2 hr1 hr2).mono ?_
    rintro e w2 ⟨rfl, hw2⟩
    have hw12 := hw1.trans hw2
    have c2 := HB.out _ hw12
    go_wp2_with fail
  · refine (rows _ _ _ _ _).mono ?_
    rintro e w3 ⟨rfl, hw3⟩
    go_wp2_with fail
    refine (span_len _ _ _ ht1 ht2 hb1 hb2).mono ?_
    rintro e w4 ⟨rfl, hw4⟩
    go_wp2
    go_ret
    exact ⟨ret_bool (by unfold fullB; simp [h1]), (((After.refl _).alloc _).trans hw12).trans (hw3.trans hw4)⟩
  · go_ret
    exact ⟨ret_bool (by unfold fullB; simp; omega), ((After.refl _).alloc _).trans hw12⟩

theorem ref02_full (l t r b : Int) (w : World) :
    Calls Try.prog 102 #[.agg #[.int .i64 l, .int .i64 t, .int .i64 r, .int .i64 b]] w (Ret (.bool (fullB l t r b)) w) := by
  go_enter Try.func102, Try.ntmps102
  go_wp2
  all_goals (go_ret; refine ⟨ret_bool ?_, (After.refl _).alloc _⟩)
  all_goals (unfold fullB; rw [Bool.eq_iff_iff]; simp; try omega)

end Go.Proofs.Ytefbeekjoafijaa
