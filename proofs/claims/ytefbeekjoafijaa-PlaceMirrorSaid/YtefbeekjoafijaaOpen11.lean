/- A want of chapter 11, as an argument: opened. -/
import Derived.Test.YtefbeekjoafijaaOpen
namespace Go.Proofs.Ytefbeekjoafijaa
open Go.RowKit Go.Sort Go.ChangeShapes Go.WideShapes Go.ChangeAt Go.Deep

theorem seven {α : Type} {l : List α} (h : l.length = 7) : ∃ a b c d e f g, l = [a, b, c, d, e, f, g] := by
  rcases l with _ | ⟨a, _ | ⟨b, _ | ⟨c, _ | ⟨d, _ | ⟨e, _ | ⟨f, _ | ⟨g, _ | ⟨x, l⟩⟩⟩⟩⟩⟩⟩⟩
  all_goals simp at h
  exact ⟨a, b, c, d, e, f, g, rfl⟩

section
variable {H : Type} {enc : TypeId × Value → H} {w : World} {base : Nat} {spare : Nat → Bool} {held : Bool}

/-- seven cells of a want that is read are seven integers -/
theorem want11_cells {n : Nat} {cs : List Value} {x : DataW H × List MemPlace} (h : DataW.trod enc Try.prog w base spare held n 92 cs = some x) :
    ∃ a b c d e f g : Int, cs = [.int .i64 a, .int .i64 b, .int .i64 c, .int .i64 d, .int .i64 e, .int .i64 f, .int .i64 g] := by
  obtain ⟨xs, m, rfl, rfl, hl, hxl, hf⟩ := DataW.trod_struct Try.underlying92 h
  have hc : Try.prog.cellsOf 92 = 7 := by kernel_rfl
  rw [hc] at hl
  have hc0 : Try.prog.cellsOf 3 = 1 := by kernel_rfl
  have f0 : DataW.trod enc Try.prog w base spare held m 3 ((cs.drop 0).take (Try.prog.cellsOf 3)) = xs[0]? := hf 0 _ rfl
  have f1 : DataW.trod enc Try.prog w base spare held m 3 ((cs.drop 1).take (Try.prog.cellsOf 3)) = xs[1]? := hf 1 _ rfl
  have f2 : DataW.trod enc Try.prog w base spare held m 3 ((cs.drop 2).take (Try.prog.cellsOf 3)) = xs[2]? := hf 2 _ rfl
  have f3 : DataW.trod enc Try.prog w base spare held m 3 ((cs.drop 3).take (Try.prog.cellsOf 3)) = xs[3]? := hf 3 _ rfl
  have f4 : DataW.trod enc Try.prog w base spare held m 3 ((cs.drop 4).take (Try.prog.cellsOf 3)) = xs[4]? := hf 4 _ rfl
  have f5 : DataW.trod enc Try.prog w base spare held m 3 ((cs.drop 5).take (Try.prog.cellsOf 3)) = xs[5]? := hf 5 _ rfl
  have f6 : DataW.trod enc Try.prog w base spare held m 3 ((cs.drop 6).take (Try.prog.cellsOf 3)) = xs[6]? := hf 6 _ rfl
  rw [hc0] at f0 f1 f2 f3 f4 f5 f6
  obtain ⟨v0, v1, v2, v3, v4, v5, v6, rfl⟩ := seven hl
  have hx : ∀ i, i < 7 → ∃ y, xs[i]? = some y := fun i hi => by
    have : i < xs.length := by rw [hxl]; exact hi
    exact ⟨_, List.getElem?_eq_getElem this⟩
  obtain ⟨y0, e0⟩ := hx 0 (by decide)
  obtain ⟨y1, e1⟩ := hx 1 (by decide)
  obtain ⟨y2, e2⟩ := hx 2 (by decide)
  obtain ⟨y3, e3⟩ := hx 3 (by decide)
  obtain ⟨y4, e4⟩ := hx 4 (by decide)
  obtain ⟨y5, e5⟩ := hx 5 (by decide)
  obtain ⟨y6, e6⟩ := hx 6 (by decide)
  rw [e0] at f0
  rw [e1] at f1
  rw [e2] at f2
  rw [e3] at f3
  rw [e4] at f4
  rw [e5] at f5
  rw [e6] at f6
  obtain ⟨a, h0, _, _⟩ := DataW.trod_int Try.underlying3 f0
  obtain ⟨b, h1, _, _⟩ := DataW.trod_int Try.underlying3 f1
  obtain ⟨c, h2, _, _⟩ := DataW.trod_int Try.underlying3 f2
  obtain ⟨d, h3, _, _⟩ := DataW.trod_int Try.underlying3 f3
  obtain ⟨e, h4, _, _⟩ := DataW.trod_int Try.underlying3 f4
  obtain ⟨f, h5, _, _⟩ := DataW.trod_int Try.underlying3 f5
  obtain ⟨g, h6, _, _⟩ := DataW.trod_int Try.underlying3 f6
  simp at h0 h1 h2 h3 h4 h5 h6
  subst h0 h1 h2 h3 h4 h5 h6
  exact ⟨a, b, c, d, e, f, g, rfl⟩
end
end Go.Proofs.Ytefbeekjoafijaa
