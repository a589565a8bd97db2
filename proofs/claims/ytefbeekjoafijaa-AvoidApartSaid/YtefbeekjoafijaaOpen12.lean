/- A want of chapter 12, as an argument: opened. -/
import Derived.Test.YtefbeekjoafijaaOpen
namespace Go.Proofs.Ytefbeekjoafijaa
open Go.RowKit Go.Sort Go.ChangeShapes Go.WideShapes Go.ChangeAt Go.Deep

section
variable {H : Type} {enc : TypeId × Value → H} {w : World} {base : Nat} {spare : Nat → Bool} {held : Bool}

/-- five cells of a want that is read are five integers -/
theorem want12_cells {n : Nat} {cs : List Value} {x : DataW H × List MemPlace} (h : DataW.trod enc Try.prog w base spare held n 55 cs = some x) :
    ∃ a b c d e : Int, cs = [.int .i64 a, .int .i64 b, .int .i64 c, .int .i64 d, .int .i64 e] := by
  obtain ⟨xs, m, rfl, rfl, hl, hxl, hf⟩ := DataW.trod_struct Try.underlying55 h
  have hc : Try.prog.cellsOf 55 = 5 := by kernel_rfl
  rw [hc] at hl
  have hc0 : Try.prog.cellsOf 3 = 1 := by kernel_rfl
  have f0 : DataW.trod enc Try.prog w base spare held m 3 ((cs.drop 0).take (Try.prog.cellsOf 3)) = xs[0]? := hf 0 _ rfl
  have f1 : DataW.trod enc Try.prog w base spare held m 3 ((cs.drop 1).take (Try.prog.cellsOf 3)) = xs[1]? := hf 1 _ rfl
  have f2 : DataW.trod enc Try.prog w base spare held m 3 ((cs.drop 2).take (Try.prog.cellsOf 3)) = xs[2]? := hf 2 _ rfl
  have f3 : DataW.trod enc Try.prog w base spare held m 3 ((cs.drop 3).take (Try.prog.cellsOf 3)) = xs[3]? := hf 3 _ rfl
  have f4 : DataW.trod enc Try.prog w base spare held m 3 ((cs.drop 4).take (Try.prog.cellsOf 3)) = xs[4]? := hf 4 _ rfl
  rw [hc0] at f0 f1 f2 f3 f4
  obtain ⟨v0, v1, v2, v3, v4, rfl⟩ := five hl
  have hx : ∀ i, i < 5 → ∃ y, xs[i]? = some y := fun i hi => by
    have : i < xs.length := by rw [hxl]; exact hi
    exact ⟨_, List.getElem?_eq_getElem this⟩
  obtain ⟨y0, e0⟩ := hx 0 (by decide)
  obtain ⟨y1, e1⟩ := hx 1 (by decide)
  obtain ⟨y2, e2⟩ := hx 2 (by decide)
  obtain ⟨y3, e3⟩ := hx 3 (by decide)
  obtain ⟨y4, e4⟩ := hx 4 (by decide)
  rw [e0] at f0
  rw [e1] at f1
  rw [e2] at f2
  rw [e3] at f3
  rw [e4] at f4
  obtain ⟨a, ha, _, _⟩ := DataW.trod_int Try.underlying3 f0
  obtain ⟨b, hb, _, _⟩ := DataW.trod_int Try.underlying3 f1
  obtain ⟨c, hcc, _, _⟩ := DataW.trod_int Try.underlying3 f2
  obtain ⟨d, hd, _, _⟩ := DataW.trod_int Try.underlying3 f3
  obtain ⟨e, he, _, _⟩ := DataW.trod_int Try.underlying3 f4
  simp at ha hb hcc hd he
  subst ha hb hcc hd he
  exact ⟨a, b, c, d, e, rfl⟩
end
end Go.Proofs.Ytefbeekjoafijaa
