/- What is free in rows: (*List).Band. -/
import Derived.Test.YtefbeekjoafijaaList
namespace Go.Proofs.Ytefbeekjoafijaa
open Go.RowKit Go.Sort

theorem mixed : Try.prog.follows .mixedOrders = true := by kernel_rfl

def BandRel (w : World) (a b : Int) (ys : List Sh) (vk : Value) (wr : World) : Prop :=
  ∃ (k : Nat) (p q : Int), vk = .int .i64 k ∧ k ≤ ys.length ∧ After w wr ∧ Blk wr w.heap.size 34 #[.int .i64 a, .int .i64 b] ∧ Blk wr (w.heap.size + 1) 34 #[.int .i64 0, .int .i64 0] ∧
    Blk wr (w.heap.size + 2) 34 #[.int .i64 p, .int .i64 q] ∧ clipS b (p, q) (ys.drop k) = clipS b (-Far, Far) ys

theorem clipS_step (b p q : Int) {ys : List Sh} {k : Nat} {s : Sh} (h : ys[k]? = some s) (hlt : s.top < b) : clipS b (p, q) (ys.drop k) = clipS b (max p s.left, min q s.right) (ys.drop (k + 1)) := by
  obtain ⟨hk, rfl⟩ := List.getElem?_eq_some_iff.1 h
  rw [List.drop_eq_getElem_cons hk]
  conv => lhs; unfold clipS
  rw [if_neg (by omega)]
theorem clipS_stop (b p q : Int) {ys : List Sh} {k : Nat} {s : Sh} (h : ys[k]? = some s) (hle : b ≤ s.top) : clipS b (p, q) (ys.drop k) = (p, q) := by
  obtain ⟨hk, rfl⟩ := List.getElem?_eq_some_iff.1 h
  rw [List.drop_eq_getElem_cons hk]
  unfold clipS
  rw [if_pos hle]

set_option maxHeartbeats 2000000 in
theorem band_any {w : World} {base L g cap : Nat} {xs : List Sh} (h : ListAt w base L g cap xs) (a b : Int) (ha : Nr a) (hb : Nr b) :
    Calls Try.prog 24 #[.pointer (some ⟨L, 0, none⟩), .agg #[.int .i64 a, .int .i64 b]] w (Ret (.agg #[.int .i64 (bandS xs a b).1, .int .i64 (bandS xs a b).2]) w) := by
  obtain ⟨ha1, ha2⟩ := ha
  obtain ⟨hb1, hb2⟩ := hb
  have H := Lib.hid h
  have hL := h.L_lt
  clear h
  have hmix := mixed
  go_enter Try.func24, Try.ntmps24
  go_wp2_with fail
  refine (span_len _ _ _ ha1 ha2 hb1 hb2).mono ?_
  rintro e w1 ⟨rfl, hw1⟩
  have b0 : Blk w1 w.heap.size 34 #[.int .i64 a, .int .i64 b] := Blk.after (by simpa using (((Blk.new w _ _).alloc _).alloc _)) hw1
  have b1 : Blk w1 (w.heap.size + 1) 34 #[.int .i64 0, .int .i64 0] := Blk.after (by simpa using (Blk.alloc (by simpa using Blk.new (w.alloc _) _ _) _)) hw1
  have b2 : Blk w1 (w.heap.size + 2) 34 #[.int .i64 (-4503599627370496), .int .i64 4503599627370496] := Blk.after (by simpa using Blk.new ((w.alloc _).alloc _) _ _) hw1
  have A1 : After w w1 := (((After.refl w).alloc _).alloc _).alloc _ |>.trans hw1
  have c0 := b0.cell
  have c1 := b1.cell
  have f1 := b1.frozen
  have c2 := b2.cell
  have f2 := b2.frozen
  by_cases hle : b - a ≤ 0
  · go_wp2_with fail
    refine bodyPost_ret (v := .agg #[.int .i64 (-4503599627370496), .int .i64 4503599627370496]) ?_ rfl ⟨?_, ?_⟩
    · have r1 := (b1.set_ 0 (.int .i64 (-4503599627370496))).set_ 1 (.int .i64 4503599627370496)
      have r2 := r1.cell
      simp [results, Try.results24, go_sem, r2]
    · unfold bandS; rw [if_pos hle]; rfl
    · exact (A1.setCell (by simp) _).setCell (by simp) _
  · have hfl := findS_lt a H.out.ne
    have hcap := H.out.cap_le
    have hfi : (findS a xs : Int) ≤ (xs.length : Int) := by omega
    have hcf : ¬ cap = findS a xs := by omega
    have hsm := H.out.small
    have qL : ∀ n os, (grow (w1.drewN n) os).cell? ⟨L, 0, none⟩ = some (.slice (some ⟨g, 0, none⟩) xs.length cap) := fun n os => cell_grown (Nat.lt_of_lt_of_le hL A1.size) ((H.out.after A1).obj.cell 0) n os
    have q0 : ∀ n os, (grow (w1.drewN n) os).cell? ⟨w.heap.size, 0, none⟩ = some (.int .i64 a) := fun n os => cell_grown b0.lt (b0.cell 0) n os
    go_wp2_with fail
    go_quiet_grown ((go_at_call 68; exact Calls.grown_after (find_any ((H.out.after A1).after (After.of_grown _ _)) a)))
    generalize hw2 : grow (w1.drewN _) _ = w2
    have A2 : After w1 w2 := hw2 ▸ After.of_grown _ _
    clear hw2 qL q0 c0 c1 f1 c2 f2
    have A02 := A1.trans A2
    have d0 := b0.after A2
    have d1 := b1.after A2
    have d2 := b2.after A2
    have hdl : (xs.drop (findS a xs)).length = xs.length - findS a xs := List.length_drop
    have Hdl := Lib.hid hdl
    clear hdl hw1 A1 b0 b1 b2 A2
    go_wp2_with fail
    go_loopw [23] (fun vk wr => BandRel w a b (xs.drop (findS a xs)) vk wr) (fun vk _ => (xs.length - findS a xs) - (intOf vk).toNat)
    case atStart => exact ⟨0, -Far, Far, rfl, Nat.zero_le _, A02, d0, d1, d2, rfl⟩
    case round =>
      obtain ⟨k, p, q, rfl, hk, hA, e0, e1, e2, hcl⟩ := hrel
      clear A02 d0 d1 d2
      have Hcl := Lib.hid hcl
      clear hcl
      rw [Hdl.out] at hk
      by_cases hlt : k < xs.length - findS a xs
      · have c0 := fun o => (e0.alloc o).cell
        have c1 := fun o => (e1.alloc o).cell
        have f1 := fun o => (e1.alloc o).frozen
        have c2 := fun o => (e2.alloc o).cell
        obtain ⟨s, hs⟩ : ∃ s, (xs.drop (findS a xs))[k]? = some s := ⟨_, List.getElem?_eq_getElem (by rw [Hdl.out]; exact hlt)⟩
        have Hs := Lib.hid hs
        rw [List.getElem?_drop] at hs
        have hr := (H.out.after hA).rowAt.2 _ s hs
        clear hs
        rw [show (findS a xs + k) * 3 = findS a xs * 3 + k * 3 by omega] at hr
        obtain ⟨r0, r1, r2⟩ := hr
        by_cases hb : b ≤ s.top
        · go_wp2_with fail
          refine bodyPost_ret (v := .agg #[.int .i64 p, .int .i64 q]) ?_ rfl ⟨?_, ?_⟩
          · have x2 := (((e1.alloc (.cells #[.int .i64 s.top, .int .i64 s.left, .int .i64 s.right] 32)).set_ 0 (.int .i64 p)).set_ 1 (.int .i64 q)).cell
            simp [results, Try.results24, go_sem, x2]
          · have := clipS_stop b p q Hs.out hb
            unfold bandS; rw [if_neg (by omega), ← drop_findS, ← Hcl.out, this]
          · exact ((hA.alloc _).setCell (by simp) _).setCell (by simp) _
        · go_wp2_with fail
          refine (span_clip _ _ _ _ _).mono ?_
          rintro e w3 ⟨rfl, hw3⟩
          have g0 := (e0.alloc _).after hw3
          have g1 := (e1.alloc _).after hw3
          have g2 := (e2.alloc _).after hw3
          have d2 := g2.cell
          have df2 := g2.frozen
          clear c0 c1 f1 c2
          go_wp2_with fail
          go_roundw
          case rel =>
            refine ⟨k + 1, max p s.left, min q s.right, by go_num, by rw [Hdl.out]; omega, (((hA.alloc _).trans hw3).setCell (by simp; omega) _).setCell (by simp; omega) _, ?_, ?_, ?_, ?_⟩
            · exact (g0.far (by simp; omega) _).far (by simp; omega) _
            · exact (g1.far (by simp) _).far (by simp) _
            · exact (g2.set_ 0 _).set_ 1 _
            · rw [← Hcl.out, clipS_step b p q Hs.out (by omega)]
          case measure => simp [intOf]; omega
      · have c1 := e1.cell
        have f1 := e1.frozen
        have c2 := e2.cell
        go_wp2_with fail
        refine bodyPost_ret (v := .agg #[.int .i64 p, .int .i64 q]) ?_ rfl ⟨?_, ?_⟩
        · have x2 := ((e1.set_ 0 (.int .i64 p)).set_ 1 (.int .i64 q)).cell
          simp [results, Try.results24, go_sem, x2]
        · have : (xs.drop (findS a xs)).drop k = [] := List.drop_eq_nil_of_le (by rw [Hdl.out]; omega)
          have h' := Hcl.out
          rw [this] at h'
          unfold bandS; rw [if_neg (by omega), ← drop_findS, ← h']; rfl
        · exact (hA.setCell (by simp) _).setCell (by simp) _
end Go.Proofs.Ytefbeekjoafijaa
