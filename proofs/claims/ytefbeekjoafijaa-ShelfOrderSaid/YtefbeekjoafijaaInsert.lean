/- slices.Insert of one shelf: behind the last one; where there is room; where there is none. -/
import Derived.Test.YtefbeekjoafijaaList
import Derived.Test.YtefbeekjoafijaaCopy
namespace Go.Proofs.Ytefbeekjoafijaa
open Go.RowKit Go.Sort

theorem info_sh : (Try.prog.info? 32).map (fun i => (i.zero, i.size, i.bytes)) = some (some (.agg #[.int .i64 0, .int .i64 0, .int .i64 0]), 3, 24) := by kernel_rfl
theorem size_sh : (Try.prog.info? 32).map (·.size) = some 3 := by kernel_rfl

theorem oneCell_int (l : List Value) (h : ∀ u ∈ l, ∃ n : Int, u = .int .i64 n) : ∀ u ∈ l, u.oneCell' = true := fun u hu => by
  obtain ⟨n, rfl⟩ := h u hu
  rfl
theorem shRow_ints (xs : List Sh) : ∀ u ∈ shRow xs, ∃ n : Int, u = .int .i64 n := by
  intro u hu
  obtain ⟨s, _, hs⟩ := List.mem_flatMap.1 hu
  simp [shCells] at hs
  rcases hs with rfl | rfl | rfl <;> exact ⟨_, rfl⟩
theorem shCells_ints (s : Sh) : ∀ u ∈ shCells s, ∃ n : Int, u = .int .i64 n := by
  intro u hs
  simp [shCells] at hs
  rcases hs with rfl | rfl | rfl <;> exact ⟨_, rfl⟩

theorem shRow_append (xs ys : List Sh) : shRow (xs ++ ys) = shRow xs ++ shRow ys := by simp [shRow]
theorem shRow_one (s : Sh) : shRow [s] = shCells s := by simp [shRow]
theorem shRow_take (xs : List Sh) (i : Nat) : (shRow xs).take (i * 3) = shRow (xs.take i) := by
  conv => lhs; rw [← List.take_append_drop i xs, shRow_append]
  rw [List.take_append, shRow_length, List.length_take]
  by_cases h : i ≤ xs.length
  · rw [Nat.min_eq_left h, Nat.sub_self, List.take_zero, List.append_nil, List.take_of_length_le]
    rw [shRow_length, List.length_take, Nat.min_eq_left h]
    exact Nat.le_refl _
  · rw [List.drop_eq_nil_of_le (by omega)]
    simp [shRow]
    rw [List.take_of_length_le]
    have := shRow_length (xs.take i)
    unfold shRow at this
    rw [this, List.length_take]; omega
theorem shRow_drop (xs : List Sh) (i : Nat) : (shRow xs).drop (i * 3) = shRow (xs.drop i) := by
  have h : shRow xs = (shRow xs).take (i * 3) ++ shRow (xs.drop i) := by
    rw [shRow_take, ← shRow_append, List.take_append_drop]
  conv => lhs; rw [h]
  rw [List.drop_append, List.length_take, shRow_length]
  by_cases hi : i ≤ xs.length
  · rw [List.drop_of_length_le (by rw [List.length_take, shRow_length]; omega)]
    rw [Nat.min_eq_left (by omega), Nat.sub_self]; simp
  · have : xs.drop i = [] := List.drop_eq_nil_of_le (by omega)
    rw [this]
    simp [shRow]

/-- what Insert hands back -/
def InsPost (w : World) (base g : Nat) (ys : List Sh) (e : Ending) (w' : World) : Prop :=
  ∃ g' cap', e = .returned (.slice (some ⟨g', 0, none⟩) ys.length cap') ∧ w'.ownsRow base 32 3 (.slice (some ⟨g', 0, none⟩) ys.length cap') ys.length (shRow ys) ∧ w.grownBy w' (some g) ∧ (g' = g ∨ w.heap.size ≤ g') ∧ w.drawn ≤ w'.drawn

theorem add_lit (b o j : Nat) : (⟨b, o, none⟩ : Addr).add j = ⟨b, o + j, none⟩ := by unfold Addr.add; split <;> simp_all

set_option maxRecDepth 100000 in
set_option maxHeartbeats 2000000 in
theorem insert_end {w : World} {base g cap : Nat} {xs : List Sh} (h : w.ownsRow base 32 3 (.slice (some ⟨g, 0, none⟩) xs.length cap) xs.length (shRow xs)) (hn : xs.length ≤ 1000000) (hb : base ≤ w.heap.size)
    (s : Sh) (vb : Nat) (hv : Blk w vb 32 #[.int .i64 s.top, .int .i64 s.left, .int .i64 s.right]) :
    Calls Try.prog 100 #[.slice (some ⟨g, 0, none⟩) xs.length cap, .int .i64 xs.length, .slice (some ⟨vb, 0, none⟩) 1 1] w (InsPost w base g (xs ++ [s])) := by
  obtain ⟨cur, hg0, hg1, hg2, hg3, hg4, hg5, hg6⟩ := ownsRow_get h
  obtain ⟨i0, hi, hz0, hz1, hz2⟩ := info_parts info_sh
  have H := Lib.hid h
  have H1 := Lib.hid hg1
  have H5 := Lib.hid hg5
  have H6 := Lib.hid hg6
  have H4 := Lib.hid hg4
  have HN := Lib.hid (show ∀ (j : Nat) (u : Value), (shCells s)[j]? = some u → w.cell? ((⟨vb, 0, none⟩ : Addr).add j) = some u from World.news_of_block hv)
  have HO := Lib.hid (oneCell_int _ (shCells_ints s))
  have HA := Lib.hid (show xs.length + 1 ≤ maxLen by unfold maxLen; omega)
  have HB := Lib.hid (show (xs.length + 1) * 24 ≤ 140737488355328 by omega)
  clear h hg1 hg5 hg6 hg4 hv
  unfold maxLen at hg3
  go_enter Try.func100, Try.ntmps100
  go_wp2_with (at_builtin; refine wpList_append_mine _ rfl _ _ 29 rfl base 32 i0 _ 3 24 Try.underlying29 hi hz0 hz1 hz2 rfl (by decide) (.slice (some ⟨g, 0, none⟩) xs.length cap) xs.length (shRow xs) rfl H.out ⟨vb, 0, none⟩ 1 1 (shCells s) rfl rfl HN.out HO.out (by decide) HA.out HB.out hb ?_; intro g' cap' w1 hown1 hgrow1 hat1 hlt1 hdr1)
  all_goals
    go_ret
    refine ⟨g', cap', ?_, ?_, hgrow1, ?_, hdr1⟩
    · simp
    · rw [shRow_append, shRow_one, List.length_append]; exact hown1
    · rcases hat1 with e | e
      · left; simp [Value.ownBlock] at e; exact e.symm
      · right; omega


theorem overlaps_no {w : World} {vb g : Nat} {cv cg : Array Value} (hv : Blk w vb 32 cv) (hg : Blk w g 32 cg) (hne : vb ≠ g) (hs : cg.size ≠ 0) (o la ca lb cb : Nat) :
    (callFunc 103 #[.slice (some ⟨vb, 0, none⟩) la ca, .slice (some ⟨g, o, none⟩) lb cb]).run Try.prog w = .ok (.value (.bool false)) w := by
  rw [run_callFunc_extern Try.func103 (by kernel_rfl) (by kernel_rfl) (by kernel_rfl) (e := Extern.SlicesOverlaps.overlaps #[29, 29] #[4]) (by kernel_rfl),
    Lib.run_overlaps_apart w 29 4 32 Try.underlying29 3 (fun _ => by kernel_rfl) ⟨vb, 0, none⟩ ⟨g, o, none⟩ la ca lb cb hne 32 32 cv.size cg.size
      (by simp [World.shape?, show w.heap[vb]? = _ from hv]) (by simp [World.shape?, show w.heap[g]? = _ from hg]) hs (hv.frozen 0) (hv.frozen _)]
  rfl

set_option maxRecDepth 100000 in
set_option maxHeartbeats 2000000 in
theorem insert_room {w : World} {base g cap : Nat} {xs : List Sh} (h : w.ownsRow base 32 3 (.slice (some ⟨g, 0, none⟩) xs.length cap) xs.length (shRow xs)) (hn : xs.length ≤ 1000000)
    (s : Sh) (vb : Nat) (hv : Blk w vb 32 #[.int .i64 s.top, .int .i64 s.left, .int .i64 s.right]) (hne : vb ≠ g) (i : Nat) (hi : i < xs.length) (hroom : xs.length + 1 ≤ cap) :
    Calls Try.prog 100 #[.slice (some ⟨g, 0, none⟩) xs.length cap, .int .i64 i, .slice (some ⟨vb, 0, none⟩) 1 1] w (InsPost w base g (xs.take i ++ [s] ++ xs.drop i)) := by
  obtain ⟨cur, hg0, hg1, hg2, hg3, hg4, hg5, hg6⟩ := ownsRow_get h
  have hz2 : ((i : Int) == (xs.length : Int)) = false := by rw [beq_eq_false_iff_ne]; omega
  have hov := fun o la ca lb cb => overlaps_no hv (show Blk w g 32 cur from hg1) hne (by omega) o la ca lb cb
  have hb3 : ¬ cap = i + 1 := by omega
  have hb4 : ¬ cap = i := by omega
  have hw1 : IntKind.i64.wrap ((i : Int) + 1) = (i : Int) + 1 := by rw [IntKind.wrap_i64]; omega
  have hb1 : (0 : Int) ≤ (i : Int) + 1 := by omega
  have htn : ((i : Int) + 1).toNat = i + 1 := by omega
  have hb5 : (i : Int) ≤ (xs.length : Int) := by omega
  have hb6 : (i : Int) ≤ (xs.length : Int) + 1 := by omega
  have hXd : ((shRow xs).drop (i * 3)).length = (xs.length - i) * 3 := by rw [List.length_drop, hg6]; omega
  obtain ⟨R1, hR1⟩ : ∃ R1, R1 = (splice cur.toList ((i + 1) * 3) ((shRow xs).drop (i * 3))).toArray := ⟨_, rfl⟩
  obtain ⟨R2, hR2⟩ : ∃ R2, R2 = (splice R1.toList (i * 3) (shCells s)).toArray := ⟨_, rfl⟩
  have hcl : cur.toList.length = cap * 3 := by rw [Array.length_toList]; exact hg4
  have hR1s : R1.size = cap * 3 := by rw [hR1, List.size_toArray, length_splice _ _ _ (by rw [hXd, hcl]; omega), hcl]
  have hR2s : R2.size = cap * 3 := by rw [hR2, List.size_toArray, length_splice _ _ _ (by simp [shCells]; omega), Array.length_toList]; exact hR1s
  obtain ⟨W1, hW1⟩ : ∃ W1, W1 = w.drew.setRow g R1 := ⟨_, rfl⟩
  have hW1g : W1.heap[g]? = some (.cells R1 32 (0, 0)) := by rw [hW1]; exact setRow_heap w.drew g cur R1 _ _ hg1
  have hcp1 : ∀ ty, (Builtin.copy_ #[29, 29] ty #[.slice (some ⟨g, (i + 1) * 3, none⟩) (xs.length - i) (cap - (i + 1)), .slice (some ⟨g, i * 3, none⟩) (xs.length + 1 - i) (cap - i)]).run Try.prog w.drew = .ok (goInt ((xs.length - i : Nat) : Int)) W1 := by
    intro ty
    have := run_copy_rowN (P := Try.prog) w.drew 29 29 ty 32 3 g ((i + 1) * 3) (xs.length - i) (cap - (i + 1)) ⟨g, i * 3, none⟩ (xs.length + 1 - i) (cap - i) cur 32 ((shRow xs).drop (i * 3)) Try.underlying29 size_sh hg1
      (by rw [hXd]; congr 1; simp only [Nat.min_def]; split <;> omega)
      (fun j v hj => by
        rw [List.getElem?_drop] at hj
        rw [add_lit]
        have hlt : i * 3 + j < xs.length * 3 := by rw [← hg6]; exact (List.getElem?_eq_some_iff.1 hj).1
        exact (h.cellAt _ hlt).trans hj)
      (by rw [hXd, hg4]; omega) (fun v hv => oneCell_int _ (shRow_ints xs) v (List.mem_of_mem_drop hv))
    rw [this, hW1, hR1, show Nat.min (xs.length + 1 - i) (xs.length - i) = xs.length - i by simp only [Nat.min_def]; split <;> omega]
  have hcp2 : ∀ ty, (Builtin.copy_ #[29, 29] ty #[.slice (some ⟨g, i * 3, none⟩) (xs.length + 1 - i) (cap - i), .slice (some ⟨vb, 0, none⟩) 1 1]).run Try.prog W1 = .ok (goInt ((1 : Nat) : Int)) (W1.setRow g R2) := by
    intro ty
    have := run_copy_rowN (P := Try.prog) W1 29 29 ty 32 3 g (i * 3) (xs.length + 1 - i) (cap - i) ⟨vb, 0, none⟩ 1 1 R1 32 (shCells s) Try.underlying29 size_sh hW1g
      (by simp only [Nat.min_def]; split <;> simp [shCells]; omega)
      (World.news_of_block (cs := #[.int .i64 s.top, .int .i64 s.left, .int .i64 s.right]) (t := 32) (fr := (0, 0)) (by rw [hW1, setRow_other _ _ _ _ hne]; exact hv))
      (by rw [hR1s]; simp [shCells]; omega) (oneCell_int _ (shCells_ints s))
    rw [this, hR2, show Nat.min 1 (xs.length + 1 - i) = 1 by simp only [Nat.min_def]; split <;> omega]
  have hfin : InsPost w base g (xs.take i ++ [s] ++ xs.drop i) (.returned (.slice (some ⟨g, 0, none⟩) (xs.length + 1) cap)) (W1.setRow g R2) := by
    have hlen : (xs.take i ++ [s] ++ xs.drop i).length = xs.length + 1 := by simp; omega
    refine ⟨g, cap, by rw [hlen], ?_, ?_, .inl rfl, ?_⟩
    · rw [hlen]
      refine ownsRow_mk hg0 (setRow_heap W1 g R1 R2 _ _ hW1g) hroom hg3 hR2s ?_ (by rw [shRow_length, hlen])
      rw [shRow_append, shRow_append, shRow_one, ← shRow_take, ← shRow_drop, hR2]
      have := shifted cur.toList (shRow xs) (shCells s) (i * 3) 3 (by rw [hg6]; exact hg5) (by rw [hg6]; omega) rfl (by rw [hg6, hcl]; omega)
      rw [hg6] at this
      rw [← this, hR1, show i * 3 + 3 = (i + 1) * 3 by omega, show xs.length * 3 + 3 = (xs.length + 1) * 3 by omega]
    · rw [hW1]
      exact ⟨rfl, rfl, rfl, by simp, fun k _ hk => by
        have hk' : k ≠ g := fun e => hk (by rw [e])
        rw [setRow_other _ _ _ _ hk', setRow_other _ _ _ _ hk']; rfl⟩
    · rw [hW1]; exact Nat.le_succ _
  have HF := Lib.hid hfin
  unfold maxLen at hg3
  clear h hg1 hg5 hg6 hg4 hv hXd hR1 hR2 hcl hR1s hR2s hW1 hW1g hfin
  go_enter Try.func100, Try.ntmps100
  go_wp2_with (simp only [hov])
  go_region_law (refine step_copy_eq rfl _ _ 29 29 rfl _ _ (by simp [Act.eval, Act.put]) (by simp [Act.eval, Act.put]) (hcp1 _) ?_)
  go_wp2_with (at_builtin; refine wpList_copy_eq _ rfl _ _ 29 29 rfl _ _ rfl rfl (hcp2 _) ?_)
  go_ret
  exact HF.out

set_option maxRecDepth 100000 in
set_option maxHeartbeats 2000000 in
theorem insert_grow {w : World} {base g cap : Nat} {xs : List Sh} (h : w.ownsRow base 32 3 (.slice (some ⟨g, 0, none⟩) xs.length cap) xs.length (shRow xs)) (hn : xs.length ≤ 1000000) (hbase : base ≤ w.heap.size)
    (s : Sh) (vb : Nat) (hv : Blk w vb 32 #[.int .i64 s.top, .int .i64 s.left, .int .i64 s.right]) (i : Nat) (hi : i < xs.length) (hroom : cap < xs.length + 1) :
    Calls Try.prog 100 #[.slice (some ⟨g, 0, none⟩) xs.length cap, .int .i64 i, .slice (some ⟨vb, 0, none⟩) 1 1] w (InsPost w base g (xs.take i ++ [s] ++ xs.drop i)) := by
  obtain ⟨cur, hg0, hg1, hg2, hg3, hg4, hg5, hg6⟩ := ownsRow_get h
  obtain ⟨i0, hi0, hz0, hzs, hzb⟩ := info_parts info_sh
  have hglt : g < w.heap.size := (Array.getElem?_eq_some_iff.1 hg1).1
  have hvlt : vb < w.heap.size := hv.lt
  have hz2 : ((i : Int) == (xs.length : Int)) = false := by rw [beq_eq_false_iff_ne]; omega
  have hcapn : (cap : Int) < (xs.length : Int) + 1 := by omega
  have hw1 : IntKind.i64.wrap ((i : Int) + 1) = (i : Int) + 1 := by rw [IntKind.wrap_i64]; omega
  have hb1 : (0 : Int) ≤ (i : Int) + 1 := by omega
  have htn : ((i : Int) + 1).toNat = i + 1 := by omega
  have hb5 : (i : Int) ≤ (xs.length : Int) := by omega
  have hb6 : (i : Int) ≤ (xs.length : Int) + 1 := by omega
  have hb4 : ¬ cap = i := by omega
  have hXd : ((shRow xs).drop (i * 3)).length = (xs.length - i) * 3 := by rw [List.length_drop, hg6]; omega
  have hXt : ((shRow xs).take (i * 3)).length = i * 3 := by rw [List.length_take, hg6]; omega
  obtain ⟨c2, hc2⟩ : ∃ c2, c2 = grownCap w (xs.length + 1) cap 32 := ⟨_, rfl⟩
  have hc2a : xs.length + 1 ≤ c2 := by rw [hc2]; exact grownCap_ge _ _ _ _
  have hc2b : c2 ≤ maxLen := by rw [hc2]; exact grownCap_le_maxLen _ _ _ _ (by unfold maxLen; omega)
  obtain ⟨Z, hZ⟩ : ∃ Z, Z = ((shRow xs).take (i * 3)).toArray ++ Builtin.zeroCells (Value.agg #[.int .i64 0, .int .i64 0, .int .i64 0]).cells (xs.length + 1 - i) ++ Builtin.zeroCells (Value.agg #[.int .i64 0, .int .i64 0, .int .i64 0]).cells (c2 - (xs.length + 1)) := ⟨_, rfl⟩
  have hZs : Z.size = c2 * 3 := by
    rw [hZ, Array.size_append, Array.size_append, size_zeroCells, size_zeroCells, List.size_toArray, hXt]
    show i * 3 + (xs.length + 1 - i) * 3 + (c2 - (xs.length + 1)) * 3 = _
    omega
  have hZt : Z.toList.take (i * 3) = (shRow xs).take (i * 3) := by
    rw [hZ, Array.toList_append, Array.toList_append, List.append_assoc, List.take_append_of_le_length (by simp [hXt])]
    exact List.take_of_length_le (by rw [show ((shRow xs).take (i * 3)).toArray.toList = (shRow xs).take (i * 3) from rfl, hXt]; exact Nat.le_refl _)
  obtain ⟨W0, hW0⟩ : ∃ W0, W0 = w.drew.alloc (.cells Z 32) := ⟨_, rfl⟩
  have hW0g : W0.heap[w.heap.size]? = some (.cells Z 32 (0, 0)) := by rw [hW0]; exact heap_alloc_new w.drew _
  have hap : ∀ ty, (Builtin.append_ #[29, 3] ty #[.slice (some ⟨g, 0, none⟩) i cap, .int .i64 ((xs.length : Int) + 1 - (i : Int))]).run Try.prog w = .ok (.slice (some ⟨w.heap.size, 0, none⟩) (xs.length + 1) c2) W0 := by
    intro ty
    have hold : (Builtin.firstCells i0.size i (.slice (some ⟨g, 0, none⟩) i cap)).run Try.prog w.drew = .ok ((shRow xs).take (i * 3)).toArray w.drew := by
      refine run_firstCells_some (P := Try.prog) w.drew i0.size i ⟨g, 0, none⟩ i cap _ (by rw [hzs, hXt]) (fun j v hj => ?_)
      rw [add_lit]
      have hlt : j < i * 3 := by rw [← hXt]; exact (List.getElem?_eq_some_iff.1 hj).1
      rw [List.getElem?_take, if_pos hlt] at hj
      rw [Nat.zero_add]
      exact (h.cellAt j (by omega)).trans hj
    have := Lib.run_append_grow_zeros (P := Try.prog) w 29 3 ty 32 i0 _ .i64 .i64 Try.underlying29 Try.underlying3 hi0 hz0 (some ⟨g, 0, none⟩) i cap _ hold (xs.length + 1 - i) (by omega) (by omega) (by omega) (by omega) (by rw [hzb]; omega)
      (growslice_fits (by omega) (by rw [hzb]; omega))
    rw [show i + (xs.length + 1 - i) = xs.length + 1 by omega, ← hc2, ← hZ, ← hW0] at this
    rw [show ((xs.length : Int) + 1 - (i : Int)) = ((xs.length + 1 - i : Nat) : Int) by omega]
    exact this
  obtain ⟨R1, hR1⟩ : ∃ R1, R1 = (splice Z.toList (i * 3) (shCells s)).toArray := ⟨_, rfl⟩
  obtain ⟨R2, hR2⟩ : ∃ R2, R2 = (splice R1.toList ((i + 1) * 3) ((shRow xs).drop (i * 3))).toArray := ⟨_, rfl⟩
  have hZl : Z.toList.length = c2 * 3 := by rw [Array.length_toList]; exact hZs
  have hR1s : R1.size = c2 * 3 := by rw [hR1, List.size_toArray, length_splice _ _ _ (by simp [shCells]; omega), hZl]
  have hR1l : R1.toList.length = c2 * 3 := by rw [Array.length_toList]; exact hR1s
  have hR2s : R2.size = c2 * 3 := by rw [hR2, List.size_toArray, length_splice _ _ _ (by rw [hXd, hR1l]; omega), Array.length_toList]; exact hR1s
  obtain ⟨W1, hW1⟩ : ∃ W1, W1 = W0.setRow w.heap.size R1 := ⟨_, rfl⟩
  have hW1g : W1.heap[w.heap.size]? = some (.cells R1 32 (0, 0)) := by rw [hW1]; exact setRow_heap W0 _ Z R1 _ _ hW0g
  have hold : ∀ k, k < w.heap.size → W0.heap[k]? = w.heap[k]? := fun k hk => by rw [hW0]; exact Below.heap_alloc w.drew _ k hk
  have hold1 : ∀ k, k < w.heap.size → W1.heap[k]? = w.heap[k]? := fun k hk => by rw [hW1, setRow_other _ _ _ _ (by omega)]; exact hold k hk
  have hcp1 : ∀ ty, (Builtin.copy_ #[29, 29] ty #[.slice (some ⟨w.heap.size, i * 3, none⟩) (xs.length + 1 - i) (c2 - i), .slice (some ⟨vb, 0, none⟩) 1 1]).run Try.prog W0 = .ok (goInt ((1 : Nat) : Int)) W1 := by
    intro ty
    have := run_copy_rowN (P := Try.prog) W0 29 29 ty 32 3 w.heap.size (i * 3) (xs.length + 1 - i) (c2 - i) ⟨vb, 0, none⟩ 1 1 Z 32 (shCells s) Try.underlying29 size_sh hW0g
      (by simp only [Nat.min_def]; split <;> simp [shCells]; omega)
      (World.news_of_block (cs := #[.int .i64 s.top, .int .i64 s.left, .int .i64 s.right]) (t := 32) (fr := (0, 0)) (by rw [hold _ hvlt]; exact hv))
      (by rw [hZs]; simp [shCells]; omega) (oneCell_int _ (shCells_ints s))
    rw [this, hW1, hR1, show Nat.min 1 (xs.length + 1 - i) = 1 by simp only [Nat.min_def]; split <;> omega]
  have hcp2 : ∀ ty, (Builtin.copy_ #[29, 29] ty #[.slice (some ⟨w.heap.size, (i + 1) * 3, none⟩) (xs.length - i) (c2 - (i + 1)), .slice (some ⟨g, i * 3, none⟩) (xs.length - i) (cap - i)]).run Try.prog W1.drew = .ok (goInt ((xs.length - i : Nat) : Int)) (W1.drew.setRow w.heap.size R2) := by
    intro ty
    have := run_copy_rowN (P := Try.prog) W1.drew 29 29 ty 32 3 w.heap.size ((i + 1) * 3) (xs.length - i) (c2 - (i + 1)) ⟨g, i * 3, none⟩ (xs.length - i) (cap - i) R1 32 ((shRow xs).drop (i * 3)) Try.underlying29 size_sh hW1g
      (by rw [hXd]; congr 1; simp only [Nat.min_def]; split <;> omega)
      (fun j v hj => by
        rw [List.getElem?_drop] at hj
        rw [add_lit]
        have hlt : i * 3 + j < xs.length * 3 := by rw [← hg6]; exact (List.getElem?_eq_some_iff.1 hj).1
        exact (World.cell?_of_block (w := w) (w' := W1.drew) (hold1 g hglt)).trans ((h.cellAt _ hlt).trans hj))
      (by rw [hXd, hR1s]; omega) (fun v hv => oneCell_int _ (shRow_ints xs) v (List.mem_of_mem_drop hv))
    rw [this, hR2, show Nat.min (xs.length - i) (xs.length - i) = xs.length - i by simp only [Nat.min_def]; split <;> omega]
  have hfin : InsPost w base g (xs.take i ++ [s] ++ xs.drop i) (.returned (.slice (some ⟨w.heap.size, 0, none⟩) (xs.length + 1) c2)) (W1.drew.setRow w.heap.size R2) := by
    have hlen : (xs.take i ++ [s] ++ xs.drop i).length = xs.length + 1 := by simp; omega
    refine ⟨w.heap.size, c2, by rw [hlen], ?_, ?_, .inr (Nat.le_refl _), ?_⟩
    · rw [hlen]
      refine ownsRow_mk hbase (setRow_heap W1.drew _ R1 R2 _ _ hW1g) hc2a hc2b hR2s ?_ (by rw [shRow_length, hlen])
      rw [shRow_append, shRow_append, shRow_one, ← shRow_take, ← shRow_drop, hR2]
      have := filled Z.toList ((shRow xs).take (i * 3)) (shCells s) ((shRow xs).drop (i * 3)) (i * 3) 3 hZt hXt rfl (by rw [hXd, hZl]; omega)
      rw [hXd] at this
      rw [← this, hR1, show i * 3 + 3 = (i + 1) * 3 by omega, show (i + 1) * 3 + (xs.length - i) * 3 = (xs.length + 1) * 3 by omega]
    · refine ⟨by rw [hW1, hW0]; rfl, by rw [hW1, hW0]; rfl, by rw [hW1, hW0]; rfl, by rw [hW1, hW0]; simp [World.setRow], fun k hk _ => ?_⟩
      rw [setRow_other _ _ _ _ (by omega)]
      exact hold1 k hk
    · rw [hW1, hW0]; exact Nat.le_trans (Nat.le_succ _) (Nat.le_succ _)
  have hq1 : ¬ c2 = i := by omega
  have hq2 : ¬ c2 = i + 1 := by omega
  have HF := Lib.hid hfin
  unfold maxLen at hg3 hc2b
  clear h hg1 hg5 hg6 hg4 hv hXd hXt hR1 hR2 hR1s hR1l hR2s hW1 hW1g hfin hold hold1 hZ hZs hZt hZl hW0 hW0g hc2
  go_enter Try.func100, Try.ntmps100
  go_wp2_with (first
    | (at_builtin; refine Lib.wpList_append_run _ rfl _ _ 29 3 rfl _ _ rfl rfl _ _ (hap _) ?_)
    | (at_builtin; refine wpList_copy_eq _ rfl _ _ 29 29 rfl _ _ rfl rfl (hcp1 _) ?_))
  go_region_law (refine step_copy_eq rfl _ _ 29 29 rfl _ _ (by simp [Act.eval, Act.put]) (by simp [Act.eval, Act.put]) (hcp2 _) ?_)
  go_wp2
  go_ret
  exact HF.out
end Go.Proofs.Ytefbeekjoafijaa
