/- The statements' examples: speaks of chapters 09 and 10. -/
import Derived.Test.YtefbeekjoafijaaFirst
namespace Go.Proofs.Ytefbeekjoafijaa
open Go.RowKit Go.Sort

/-- what lies in a cell, and a space, whatever comes behind -/
structure Holds (w : World) (base S L g cap : Nat) (fv : Value) (fs : List Flt) (B : Nat) : Prop where
  sp : SpaceAt w base S L g cap fv fs
  cell : Blk w B 38 #[.pointer (some ⟨S, 0, none⟩)]

theorem Holds.after {w w' : World} {base S L g cap : Nat} {fv : Value} {fs : List Flt} {B : Nat} (h : Holds w base S L g cap fv fs B) (k : After w w') : Holds w' base S L g cap fv fs B := ⟨h.sp.after k, h.cell.after k⟩

theorem speaks10_1 {w : World} {base S L g cap : Nat} {fv : Value} {fs : List Flt} {B : Nat} (h : Holds w base S L g cap fv fs B) (y : Int) (hy : -9007199254740000 ≤ y ∧ y ≤ 9007199254740000) :
    Calls Try.prog 70 #[.int .i64 y, .pointer (some ⟨B, 0, none⟩)] w (Ret (.bool (decide ((bandAt fs y 1).1 < 0))) w) := by
  have hmix := mixed
  obtain ⟨y1, y2⟩ := hy
  have H := Lib.hid h
  have k0 := h.cell.cell 0
  simp at k0
  have q0 := fun n os => cell_grown (w := w) h.cell.lt k0 n os
  have hfld : ∀ (p q : Int) (w : World), (Instr.field 34 (.agg #[.int .i64 p, .int .i64 q]) 0).run Try.prog w = .ok (.int .i64 p) w := fun _ _ _ => by kernel_rfl
  have hh := Lib.hid (show hi1 1 = 1 by decide)
  clear h k0
  go_enter Try.func70, Try.ntmps70
  go_wp2_with fail
  go_quiet_grown (first | (go_at_call 33; exact Calls.grown_after (space_rows y 1 _ (by omega) (by omega) (by omega) (by omega))) | (go_at_call 36; exact Calls.grown_after (space_bounds (H.out.sp.after (After.of_grown _ _)) y (y + hi1 1) ⟨by omega, by omega⟩ ⟨by have := hh.out; omega, by have := hh.out; omega⟩)))
  go_wp2
  go_ret
  exact ⟨rfl, After.of_grown _ _⟩

def flt0 : Flt := ⟨1, 0, 2, 3, 5⟩

theorem law10_speaks (w : World) : Calls Try.prog 25 #[] w (Ret (.bool true) w) := by
  go_enter Try.func25, Try.ntmps25
  go_wp2_with fail
  refine (space_new _).mono ?_
  rintro e w1 ⟨S, L, g, cap, fv, rfl, hs, hw1⟩
  have HS := Lib.hid hs
  clear hs
  go_wp2_with fail
  have hp := put_any (HS.out.after ((After.refl w1).alloc (.cells #[.pointer (some ⟨S, 0, none⟩)] 38))) (by decide) 1 0 2 3 5 (.inl rfl) (by decide)
  refine hp.mono ?_
  rintro e w2 ⟨rfl, g2, cap2, fv2, h2, O2, G2⟩
  have b1 : Blk w2 w1.heap.size 38 #[.pointer (some ⟨S, 0, none⟩)] := (Blk.new w1 _ _).only O2 (fun h => by have := (HS.out.owns_lt h).2; omega)
  have A2 : After w w2 := (((hw1.alloc _).only _).trans O2 (fun _ _ h => h)).after_of (fun k hk hS => by have := (HS.out.owns_lt hS).1; omega)
  have hold : Holds w2 w.heap.size S L g2 cap2 fv2 [flt0] w1.heap.size := ⟨h2, b1⟩
  have k0 := b1.cell 0
  simp at k0
  have HH := Lib.hid hold
  have HA2 := Lib.hid A2
  clear hp h2 O2 G2 A2 hold
  have hsh : ∀ s ∈ shelvesOf [flt0], -9007199254740000 ≤ s.top ∧ s.top ≤ 9007199254740000 := by decide
  have hfy : firstY (fun y => decide ((bandAt [flt0] y 1).1 < 0)) (topsBelow 3 (shelvesOf [flt0])) 3 = 5 := by decide
  have hSh := Lib.hid hsh
  have hFy := Lib.hid hfy
  clear hsh hfy
  go_wp2_with fail
  refine (first_any (fun y => decide ((bandAt [flt0] y 1).1 < 0)) (fun y => -9007199254740000 ≤ y ∧ y ≤ 9007199254740000) (fun _ w' => Holds w' w.heap.size S L g2 cap2 fv2 [flt0] w1.heap.size ∧ After w w') 70 #[] #[.pointer (some ⟨w1.heap.size, 0, none⟩)]
    (enters (fn := Try.f70) (by kernel_rfl) (by kernel_rfl) rfl) (fun _ _ h => h.1.sp) (fun _ _ _ h k => ⟨h.1.after k, h.2.trans k⟩)
    (fun z asked w' hz hw' => (speaks10_1 hw'.1 z hz).mono (fun _ _ h => ⟨h.1, hw'.1.after h.2, hw'.2.trans h.2⟩)) hSh.out ⟨HH.out, HA2.out⟩ 3 (by decide)).mono ?_
  rintro e w3 ⟨rfl, hh3, hA3⟩
  rw [hFy.out]
  have k0 := hh3.cell.cell 0
  simp at k0
  have H3 := Lib.hid hh3
  clear hh3
  go_wp2_with fail
  refine (space_floats H3.out.sp (by decide)).mono ?_
  rintro e w4 ⟨v, rfl, hv, hw4⟩
  rcases hv with ⟨_, _, _, h⟩ | ⟨b, o, cp, rfl, _⟩
  · cases h
  · go_wp2
    go_ret
    exact ⟨rfl, hA3.trans hw4⟩
end Go.Proofs.Ytefbeekjoafijaa
