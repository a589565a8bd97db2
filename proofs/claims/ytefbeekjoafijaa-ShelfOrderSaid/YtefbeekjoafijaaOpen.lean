/- A slice of the reference's floats, as an argument: opened. -/
import Derived.Test.YtefbeekjoafijaaSpeaks
import Derived.ProofKit
import Derived.OpenShut
import Derived.ChangeOld
import Derived.Below
import Derived.Carry
import Derived.Deep.Slices
namespace Go.Proofs.Ytefbeekjoafijaa
open Go.RowKit Go.Sort Go.ChangeShapes Go.WideShapes Go.ChangeAt Go.Deep

theorem own : ownKnob Try.prog.godebug = none := by kernel_rfl
theorem laidOut : laidOutB Try.prog = true := by kernel_rfl

theorem five {α : Type} {l : List α} (h : l.length = 5) : ∃ a b c d e, l = [a, b, c, d, e] := by
  rcases l with _ | ⟨a, _ | ⟨b, _ | ⟨c, _ | ⟨d, _ | ⟨e, _ | ⟨f, l⟩⟩⟩⟩⟩⟩
  all_goals simp at h
  exact ⟨a, b, c, d, e, rfl⟩

instance : Inhabited Flt := ⟨⟨0, 0, 0, 0, 0⟩⟩

section
variable {H : Type} {enc : TypeId × Value → H} {w : World} {base : Nat} {spare : Nat → Bool} {held : Bool}

/-- five cells of a float that is read are five integers -/
theorem float_cells {n : Nat} {cs : List Value} {x : DataW H × List MemPlace} (h : DataW.trod enc Try.prog w base spare held n 72 cs = some x) :
    ∃ s l t r b : Int, cs = [.int .i64 s, .int .i64 l, .int .i64 t, .int .i64 r, .int .i64 b] ∧ (Lit.int .i64 s).wf = true ∧ (Lit.int .i64 l).wf = true ∧ (Lit.int .i64 t).wf = true ∧ (Lit.int .i64 r).wf = true ∧ (Lit.int .i64 b).wf = true := by
  obtain ⟨xs, m, rfl, rfl, hl, hxl, hf⟩ := DataW.trod_struct Try.underlying72 h
  have hc : Try.prog.cellsOf 72 = 5 := by kernel_rfl
  rw [hc] at hl
  have f0 : DataW.trod enc Try.prog w base spare held m 3 ((cs.drop 0).take (Try.prog.cellsOf 3)) = xs[0]? := hf 0 _ rfl
  have f1 : DataW.trod enc Try.prog w base spare held m 70 ((cs.drop 1).take (Try.prog.cellsOf 70)) = xs[1]? := hf 1 _ rfl
  have hc0 : Try.prog.cellsOf 3 = 1 := by kernel_rfl
  have hc1 : Try.prog.cellsOf 70 = 4 := by kernel_rfl
  rw [hc0] at f0
  rw [hc1] at f1
  obtain ⟨v0, v1, v2, v3, v4, rfl⟩ := five hl
  have hx0 : ∃ y, xs[0]? = some y := by
    have : 0 < xs.length := by rw [hxl]; decide
    exact ⟨_, List.getElem?_eq_getElem this⟩
  have hx1 : ∃ y, xs[1]? = some y := by
    have : 1 < xs.length := by rw [hxl]; decide
    exact ⟨_, List.getElem?_eq_getElem this⟩
  obtain ⟨y0, e0⟩ := hx0
  obtain ⟨y1, e1⟩ := hx1
  rw [e0] at f0
  rw [e1] at f1
  obtain ⟨s, hs, _, ws⟩ := DataW.trod_int Try.underlying3 f0
  obtain ⟨ys, m', _, _, _, hyl, hg⟩ := DataW.trod_array Try.underlying70 f1
  have key : ∀ i, i < 4 → ∃ z : Int, (([v1, v2, v3, v4].drop i).take 1) = [.int .i64 z] ∧ (Lit.int .i64 z).wf = true := by
    intro i hi
    have g := hg i hi
    rw [hc0, Nat.mul_one] at g
    have : i < ys.length := by rw [hyl]; exact hi
    rw [List.getElem?_eq_getElem this] at g
    obtain ⟨z, hz, _, wz⟩ := DataW.trod_int Try.underlying3 g
    exact ⟨z, hz, wz⟩
  obtain ⟨l, hl', wl⟩ := key 0 (by decide)
  obtain ⟨t, ht, wt⟩ := key 1 (by decide)
  obtain ⟨r, hr, wr⟩ := key 2 (by decide)
  obtain ⟨b, hb, wb⟩ := key 3 (by decide)
  simp at hs hl' ht hr hb
  subst hs hl' ht hr hb
  exact ⟨s, l, t, r, b, rfl, ws, wl, wt, wr, wb⟩

theorem fls_of_trod {n : Nat} {cs : List Value} {x : DataW H × List MemPlace} (h : DataW.trod enc Try.prog w base spare held n 22 cs = some x) :
    ∃ v fs, cs = [v] ∧ FlsAt w v fs := by
  have hc : Try.prog.cellsOf 72 = 5 := by kernel_rfl
  rcases open_slice Try.underlying22 h with ⟨rfl, _⟩ | ⟨a, len, cap, m, n', D, Pl, rfl, hb, hl, hm, hmm, _, hi⟩
  · exact ⟨_, [], rfl, .inl ⟨none, 0, rfl, rfl⟩⟩
  · rcases Nat.eq_zero_or_pos len with h0 | hpos
    · subst h0
      exact ⟨_, [], rfl, .inl ⟨_, _, rfl, rfl⟩⟩
    · have hlm : len ≤ m := by rw [hmm]; split <;> omega
      have each : ∀ i, i < len → ∃ f : Flt, ∀ j u, (flCells f)[j]? = some u → w.cell? (a.add (i * 5 + j)) = some u := by
        intro i hil
        obtain ⟨cs', h1, h2⟩ := hi i (by omega)
        rw [hc] at h1
        obtain ⟨_, hcl, hat⟩ := World.cells?_some h1
        obtain ⟨s, l, t, r, b, rfl, _⟩ := float_cells h2
        refine ⟨⟨s, l, t, r, b⟩, fun j u hu => ?_⟩
        have hj : j < 5 := (List.getElem?_eq_some_iff.1 hu).1
        have := hat j hj
        rw [add_add] at this
        rw [this]; exact hu
      obtain ⟨f, hf⟩ := choose_lt (α := Flt) (p := fun i f => ∀ j u, (flCells f)[j]? = some u → w.cell? (a.add (i * 5 + j)) = some u) each
      obtain ⟨b, off, spot⟩ := a
      have hspot : spot = none := by
        have := World.cell?_spot (hf 0 hpos 0 _ rfl)
        simpa [Addr.add] using this
      subst hspot
      have hblt : b < w.heap.size := by
        have := hf 0 hpos 0 _ rfl
        rw [add_lit] at this
        rcases Nat.lt_or_ge b w.heap.size with h' | h'
        · exact h'
        · unfold World.cell? at this
          simp [Array.getElem?_eq_none h'] at this
      refine ⟨_, (List.range len).map f, rfl, .inr ⟨b, off, cap, by simp, hblt, ⟨by simpa using hl, by simpa [maxLen] using hm⟩, fun i g hg => ?_⟩⟩
      rw [List.getElem?_map] at hg
      cases hr : (List.range len)[i]? with
      | none => rw [hr] at hg; cases hg
      | some i' =>
        rw [hr] at hg
        obtain ⟨hil, e⟩ := List.getElem?_eq_some_iff.1 hr
        rw [List.getElem_range] at e
        subst e
        have hil' : i < len := by simpa using hil
        have e : f i = g := by simpa using hg
        subst e
        have := fun j u hj => hf i hil' j u hj
        simp only [add_lit] at this
        exact ⟨this 0 _ rfl, this 1 _ rfl, this 2 _ rfl, this 3 _ rfl, this 4 _ rfl⟩
end
end Go.Proofs.Ytefbeekjoafijaa
