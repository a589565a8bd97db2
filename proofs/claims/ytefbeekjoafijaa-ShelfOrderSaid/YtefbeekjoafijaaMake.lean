/- shelf.New, slices.Clone at shelves, (*List).Shelves: a new list; the shelves in a row of their own. -/
import Derived.Test.YtefbeekjoafijaaAdd
namespace Go.Proofs.Ytefbeekjoafijaa
open Go.RowKit Go.Sort

theorem Only.after_of {a c : World} {S : Nat → Prop} (h : Only a c S) (hS : ∀ k, k < a.heap.size → ¬ S k) : After a c :=
  ⟨⟨h.os, h.tape, h.output, h.size, fun k hk => h.block k hk (hS k hk)⟩, h.drawn⟩
theorem After.of_grownBy_new {w w' : World} {g : Nat} (h : w.grownBy w' (some g)) (hd : w.drawn ≤ w'.drawn) {w0 : World} (h0 : After w0 w) (hg : w0.heap.size ≤ g) : After w0 w' :=
  ((h0.only (· = g)).trans (Only.of_grownBy h hd) (fun _ _ h => h)).after_of (fun k hk e => by omega)
/-- a row of the call's own in a block laid whole -/
theorem ownsRow_of_blk {w : World} {base g n size : Nat} {e : TypeId} {cs : Array Value} (h : Blk w g e cs) (hb : base ≤ g) (hn : n ≤ maxLen) (hs : cs.size = n * size) : w.ownsRow base e size (.slice (some ⟨g, 0, none⟩) n n) n cs.toList :=
  ownsRow_mk hb h (Nat.le_refl _) hn hs (by rw [List.take_of_length_le (by rw [Array.length_toList]; omega)]) (by rw [Array.length_toList, hs])

/-! ### New -/
def NewPost (w : World) (e : Ending) (w' : World) : Prop :=
  ∃ L g cap, e = .returned (.pointer (some ⟨L, 0, none⟩)) ∧ ListAt w' w.heap.size L g cap newS ∧ After w w'

theorem shelf_new (w : World) : Calls Try.prog 64 #[] w (NewPost w) := by
  go_enter Try.func64, Try.ntmps64
  go_wp2_with fail
  go_ret
  have b1 : Blk (w.alloc (.cells #[.int .i64 (-4503599627370496), .int .i64 (-4503599627370496), .int .i64 4503599627370496] 32)) w.heap.size 32 #[.int .i64 (-4503599627370496), .int .i64 (-4503599627370496), .int .i64 4503599627370496] := Blk.new _ _ _
  have b2 := b1.alloc (.cells #[.slice (some ⟨w.heap.size, 0, none⟩) 1 1] 105)
  have b3 := Blk.new (w.alloc (.cells #[.int .i64 (-4503599627370496), .int .i64 (-4503599627370496), .int .i64 4503599627370496] 32)) 105 #[.slice (some ⟨w.heap.size, 0, none⟩) 1 1]
  rw [World.size_alloc] at b3
  refine ⟨_, w.heap.size, 1, rfl, ⟨b3, ownsRow_of_blk b2 (Nat.le_refl _) (by decide) rfl, by simp, by decide, by simp [Rising, newS], by decide⟩, ((After.refl _).alloc _).alloc _⟩

/-! ### Clone -/
def ClonePost (w : World) (xs : List Sh) (e : Ending) (w' : World) : Prop :=
  ∃ g cap, e = .returned (.slice (some ⟨g, 0, none⟩) xs.length cap) ∧ w'.ownsRow w.heap.size 32 3 (.slice (some ⟨g, 0, none⟩) xs.length cap) xs.length (shRow xs) ∧ After w w'

set_option maxRecDepth 100000 in
set_option maxHeartbeats 1000000 in
theorem clone_sh {w : World} {base g cap : Nat} {xs : List Sh} (h : w.ownsRow base 32 3 (.slice (some ⟨g, 0, none⟩) xs.length cap) xs.length (shRow xs)) (hn : xs.length ≤ 1000000) (hne : xs ≠ []) :
    Calls Try.prog 66 #[.slice (some ⟨g, 0, none⟩) xs.length cap] w (ClonePost w xs) := by
  obtain ⟨i0, hi, hz0, hz1, hz2⟩ := info_parts info_sh
  have hg : g < w.heap.size := (h.lt g rfl).2
  have hpos : 0 < xs.length := List.length_pos_iff.2 hne
  obtain ⟨W, hW⟩ : ∃ W, W = w.alloc (.cells #[] 32) := ⟨_, rfl⟩
  have hn1 : ∀ (j : Nat) (u : Value), (shRow xs)[j]? = some u → W.cell? ((⟨g, 0, none⟩ : Addr).add j) = some u := by
    intro j u hu
    have hj : j < (shRow xs).length := (List.getElem?_eq_some_iff.1 hu).1
    rw [shRow_length] at hj
    have a1 : After w W := by rw [hW]; exact (After.refl _).alloc _
    rw [add_lit, Nat.zero_add, a1.cell hg, h.cellAt j hj]
    exact hu
  have hown0 : W.ownsRow w.heap.size 32 3 (.slice (some ⟨w.heap.size, 0, none⟩) 0 0) 0 [] := by
    rw [hW]; exact ownsRow_of_blk (Blk.new w _ _) (Nat.le_refl _) (by decide) rfl
  have HN := Lib.hid hn1
  have H0 := Lib.hid hown0
  have HO := Lib.hid (oneCell_int _ (shRow_ints xs))
  have HL := Lib.hid (shRow_length xs)
  have HA := Lib.hid (show 0 + xs.length ≤ maxLen by unfold maxLen; omega)
  have HB := Lib.hid (show (0 + xs.length) * 24 ≤ 140737488355328 by omega)
  have hb : w.heap.size ≤ W.heap.size := by rw [hW]; simp
  have HW := Lib.hid hW
  have he : ∀ w : World, (binOp .eql 29 (.slice (some ⟨g, 0, none⟩) xs.length cap) (.slice none 0 0)).run Try.prog w = .ok (.bool false) w := fun _ => rfl
  clear h hn1 hown0 hW
  go_enter Try.func66, Try.ntmps66
  go_wp2_with (at_builtin; rw [← HW.out]; refine wpList_append_mine _ rfl _ _ 29 rfl w.heap.size 32 i0 _ 3 24 Try.underlying29 hi hz0 hz1 hz2 rfl (by decide) (.slice (some ⟨w.heap.size, 0, none⟩) 0 0) 0 [] rfl H0.out ⟨g, 0, none⟩ xs.length cap (shRow xs) rfl HL.out HN.out HO.out hpos HA.out HB.out hb ?_; intro g' cap' w1 hown1 hgrow1 hat1 hlt1 hdr1)
  all_goals
    go_ret
    refine ⟨g', cap', by simp, ?_, ?_⟩
    · simpa using hown1
    · have a1 : After w W := by rw [HW.out]; exact (After.refl _).alloc _
      exact After.of_grownBy_new hgrow1 hdr1 a1 (Nat.le_refl _)

theorem list_shelves {w : World} {base L g cap : Nat} {xs : List Sh} (h : ListAt w base L g cap xs) : Calls Try.prog 23 #[.pointer (some ⟨L, 0, none⟩)] w (ClonePost w xs) := by
  have q0 := h.obj.cell 0
  simp at q0
  have H := Lib.hid h
  clear h
  go_enter Try.func23, Try.ntmps23
  go_wp2_with fail
  refine (clone_sh H.out.row H.out.small H.out.ne).mono ?_
  rintro e w1 ⟨g', cap', rfl, hown, hw⟩
  go_wp2
  go_ret
  exact ⟨g', cap', rfl, hown, hw⟩
end Go.Proofs.Ytefbeekjoafijaa
