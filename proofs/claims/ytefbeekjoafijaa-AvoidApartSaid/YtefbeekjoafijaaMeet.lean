/- What rectangles have in common; do they meet? -/
import Derived.Test.YtefbeekjoafijaaGuard12
namespace Go.Proofs.Ytefbeekjoafijaa
open Go.RowKit Go.Sort
set_option linter.unusedVariables false
set_option linter.unusedSimpArgs false
attribute [local irreducible] wpQuiet

def comB (l t r b l' t' r' b' : Int) : Value := .agg #[.int .i64 (max l l'), .int .i64 (max t t'), .int .i64 (min r r'), .int .i64 (min b b')]

set_option maxHeartbeats 1000000 in
theorem rect_both (l t r b l' t' r' b' : Int) (w : World) :
    Calls Try.prog 97 #[.func (.func 69) #[] #[], .agg #[.int .i64 l, .int .i64 t, .int .i64 r, .int .i64 b], .agg #[.int .i64 l', .int .i64 t', .int .i64 r', .int .i64 b']] w (Ret (comB l t r b l' t' r' b') w) := by
  have hmix := mixed
  obtain ⟨w3, hw3⟩ : ∃ w3, ((w.alloc (.cells #[.int .i64 l, .int .i64 t, .int .i64 r, .int .i64 b] 59)).alloc (.cells #[.int .i64 l', .int .i64 t', .int .i64 r', .int .i64 b'] 59)).alloc (.cells #[.int .i64 0, .int .i64 0, .int .i64 0, .int .i64 0] 59) = w3 := ⟨_, rfl⟩
  have A3 : After w w3 := hw3 ▸ (((After.refl w).alloc _).alloc _).alloc _
  have B0 : Blk w3 w.heap.size 59 #[.int .i64 l, .int .i64 t, .int .i64 r, .int .i64 b] := hw3 ▸ ((Blk.new w _ _).alloc _).alloc _
  have B1 : Blk w3 (w.heap.size + 1) 59 #[.int .i64 l', .int .i64 t', .int .i64 r', .int .i64 b'] := by
    have := (Blk.new (w.alloc (.cells #[.int .i64 l, .int .i64 t, .int .i64 r, .int .i64 b] 59)) 59 #[.int .i64 l', .int .i64 t', .int .i64 r', .int .i64 b']).alloc (.cells #[.int .i64 0, .int .i64 0, .int .i64 0, .int .i64 0] 59)
    rw [World.size_alloc, hw3] at this; exact this
  have B2 : Blk w3 (w.heap.size + 1 + 1) 59 #[.int .i64 0, .int .i64 0, .int .i64 0, .int .i64 0] := by
    have := Blk.new ((w.alloc (.cells #[.int .i64 l, .int .i64 t, .int .i64 r, .int .i64 b] 59)).alloc (.cells #[.int .i64 l', .int .i64 t', .int .i64 r', .int .i64 b'] 59)) 59 #[.int .i64 0, .int .i64 0, .int .i64 0, .int .i64 0]
    rw [World.size_alloc, World.size_alloc, hw3] at this; exact this
  have k0 := B0.cell 0
  have k1 := B0.cell 1
  have k2 := B0.cell 2
  have k3 := B0.cell 3
  have m0 := B1.cell 0
  have m1 := B1.cell 1
  have m2 := B1.cell 2
  have m3 := B1.cell 3
  simp at k0 k1 k2 k3 m0 m1 m2 m3
  have q0 := fun n os => cell_grown (w := w3) B0.lt k0 n os
  have q1 := fun n os => cell_grown (w := w3) B0.lt k1 n os
  have q2 := fun n os => cell_grown (w := w3) B0.lt k2 n os
  have q3 := fun n os => cell_grown (w := w3) B0.lt k3 n os
  have r0 := fun n os => cell_grown (w := w3) B1.lt m0 n os
  have r1 := fun n os => cell_grown (w := w3) B1.lt m1 n os
  have r2 := fun n os => cell_grown (w := w3) B1.lt m2 n os
  have r3 := fun n os => cell_grown (w := w3) B1.lt m3 n os
  have HB2 := Lib.hid B2
  have HA3 := Lib.hid A3
  clear k0 k1 k2 k3 m0 m1 m2 m3 B0 B1 B2 A3
  go_enter Try.func97, Try.ntmps97
  go_wp2_with fail
  refine wp_region_quiet_tail 13 hmix (by kernel_rfl) ?_
  simp only [List.take_succ_cons, List.take_zero, List.drop_succ_cons, List.drop_zero]
  repeat (quiet_step (first | (go_at_call 95; exact Calls.grown_after (columns _ _ _ _ _)) | (go_at_call 96; exact Calls.grown_after (rows _ _ _ _ _)) | (go_at_call 69; exact Calls.grown_after (span_clip _ _ _ _ _)) | (go_at_call 77; exact Calls.grown_after (rect_of _ _ _ _ _))))
  refine wpQuiet_nil ?_
  rintro _ ⟨p, rfl⟩
  generalize hw5 : grow (w3.drewN p.n) p.os = w5
  have A5 : After w3 w5 := hw5 ▸ After.of_grown _ _
  clear hw5 q0 q1 q2 q3 r0 r1 r2 r3 hw3
  have R5 := HB2.out.after A5
  have A05 := HA3.out.trans A5
  have m0 := R5.cell 0
  have m1 := R5.cell 1
  have m2 := R5.cell 2
  have m3 := R5.cell 3
  have f0 := R5.frozen 0
  have f1 := R5.frozen 1
  have f2 := R5.frozen 2
  have f3 := R5.frozen 3
  simp at m0 m1 m2 m3
  obtain ⟨w6, hw6⟩ : ∃ w6, (((w5.setCell ⟨w.heap.size + 1 + 1, 0, none⟩ (.int .i64 (max l l'))).setCell ⟨w.heap.size + 1 + 1, 1, none⟩ (.int .i64 (max t t'))).setCell ⟨w.heap.size + 1 + 1, 2, none⟩ (.int .i64 (min r r'))).setCell ⟨w.heap.size + 1 + 1, 3, none⟩ (.int .i64 (min b b')) = w6 := ⟨_, rfl⟩
  have hge : w.heap.size ≤ w.heap.size + 1 + 1 := by omega
  have A6 : After w w6 := hw6 ▸ (((A05.setCell hge _).setCell hge _).setCell hge _).setCell hge _
  have R6 : Blk w6 (w.heap.size + 1 + 1) 59 #[.int .i64 (max l l'), .int .i64 (max t t'), .int .i64 (min r r'), .int .i64 (min b b')] := hw6 ▸ (((R5.set_ 0 _).set_ 1 _).set_ 2 _).set_ 3 _
  have HA6 := Lib.hid A6
  have n0 := R6.cell 0
  have n1 := R6.cell 1
  have n2 := R6.cell 2
  have n3 := R6.cell 3
  simp at n0 n1 n2 n3
  clear A6 R6 R5 A05 A5 hge
  go_wp2_with fail
  exact bodyPost_ret (v := comB l t r b l' t' r' b') (by simp [results, Try.results97, go_sem, n0, n1, n2, n3, comB]) rfl ⟨rfl, HA6.out⟩

theorem rect_common (l t r b l' t' r' b' : Int) (w : World) :
    Calls Try.prog 83 #[.agg #[.int .i64 l, .int .i64 t, .int .i64 r, .int .i64 b], .agg #[.int .i64 l', .int .i64 t', .int .i64 r', .int .i64 b']] w (Ret (comB l t r b l' t' r' b') w) := by
  have R3 := Lib.hid (show Blk (((w.alloc (.cells #[.int .i64 l, .int .i64 t, .int .i64 r, .int .i64 b] 59)).alloc (.cells #[.int .i64 l', .int .i64 t', .int .i64 r', .int .i64 b'] 59)).alloc (.cells #[.int .i64 0, .int .i64 0, .int .i64 0, .int .i64 0] 59)) (w.heap.size + 1 + 1) 59 #[.int .i64 0, .int .i64 0, .int .i64 0, .int .i64 0] from by
    have := Blk.new ((w.alloc (.cells #[.int .i64 l, .int .i64 t, .int .i64 r, .int .i64 b] 59)).alloc (.cells #[.int .i64 l', .int .i64 t', .int .i64 r', .int .i64 b'] 59)) 59 #[.int .i64 0, .int .i64 0, .int .i64 0, .int .i64 0]
    rwa [World.size_alloc, World.size_alloc] at this)
  have A3 := Lib.hid ((((After.refl w).alloc (.cells #[.int .i64 l, .int .i64 t, .int .i64 r, .int .i64 b] 59)).alloc (.cells #[.int .i64 l', .int .i64 t', .int .i64 r', .int .i64 b'] 59)).alloc (.cells #[.int .i64 0, .int .i64 0, .int .i64 0, .int .i64 0] 59))
  go_enter Try.func83, Try.ntmps83
  go_wp2_with fail
  refine (rect_both l t r b l' t' r' b' _).mono ?_
  rintro e w5 ⟨rfl, hw5⟩
  unfold comB
  have R5 := R3.out.after hw5
  have A05 := A3.out.trans hw5
  have m0 := R5.cell 0
  have m1 := R5.cell 1
  have m2 := R5.cell 2
  have m3 := R5.cell 3
  have f0 := R5.frozen 0
  have f1 := R5.frozen 1
  have f2 := R5.frozen 2
  have f3 := R5.frozen 3
  simp at m0 m1 m2 m3
  obtain ⟨w6, hw6⟩ : ∃ w6, (((w5.setCell ⟨w.heap.size + 1 + 1, 0, none⟩ (.int .i64 (max l l'))).setCell ⟨w.heap.size + 1 + 1, 1, none⟩ (.int .i64 (max t t'))).setCell ⟨w.heap.size + 1 + 1, 2, none⟩ (.int .i64 (min r r'))).setCell ⟨w.heap.size + 1 + 1, 3, none⟩ (.int .i64 (min b b')) = w6 := ⟨_, rfl⟩
  have hge : w.heap.size ≤ w.heap.size + 1 + 1 := by omega
  have A6 : After w w6 := hw6 ▸ (((A05.setCell hge _).setCell hge _).setCell hge _).setCell hge _
  have R6 : Blk w6 (w.heap.size + 1 + 1) 59 #[.int .i64 (max l l'), .int .i64 (max t t'), .int .i64 (min r r'), .int .i64 (min b b')] := hw6 ▸ (((R5.set_ 0 _).set_ 1 _).set_ 2 _).set_ 3 _
  have HA6 := Lib.hid A6
  have n0 := R6.cell 0
  have n1 := R6.cell 1
  have n2 := R6.cell 2
  have n3 := R6.cell 3
  simp at n0 n1 n2 n3
  clear A6 R6 R5 A05 hge hw5
  go_wp2_with fail
  exact bodyPost_ret (v := .agg #[.int .i64 (max l l'), .int .i64 (max t t'), .int .i64 (min r r'), .int .i64 (min b b')]) (by simp [results, Try.results83, go_sem, n0, n1, n2, n3]) rfl ⟨rfl, HA6.out⟩

theorem rect_meet (l t r b l' t' r' b' : Int) (w : World) (h1 : Nr l) (h2 : Nr t) (h3 : Nr r) (h4 : Nr b) (h5 : Nr l') (h6 : Nr t') (h7 : Nr r') (h8 : Nr b') :
    Calls Try.prog 54 #[.agg #[.int .i64 l, .int .i64 t, .int .i64 r, .int .i64 b], .agg #[.int .i64 l', .int .i64 t', .int .i64 r', .int .i64 b']] w (Ret (.bool (fullB (max l l') (max t t') (min r r') (min b b'))) w) := by
  unfold Nr at h1 h2 h3 h4 h5 h6 h7 h8
  have C := Lib.hid (fun (w' : World) => rect_full (max l l') (max t t') (min r r') (min b b') w' (by unfold Nr; omega) (by unfold Nr; omega) (by unfold Nr; omega) (by unfold Nr; omega))
  go_enter Try.func54, Try.ntmps54
  go_wp2_with fail
  refine (rect_common l t r b l' t' r' b' _).mono ?_
  rintro e w4 ⟨rfl, hw4⟩
  unfold comB
  go_wp2_with fail
  refine (C.out _).mono ?_
  rintro e w5 ⟨rfl, hw5⟩
  go_wp2
  go_ret
  exact ⟨rfl, (((After.refl _).alloc _).alloc _).trans (hw4.trans hw5)⟩
end Go.Proofs.Ytefbeekjoafijaa
