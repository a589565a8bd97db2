/- slices.CompactFunc of shelves, neighbours alike taken together. -/
import Derived.Test.YtefbeekjoafijaaCut
namespace Go.Proofs.Ytefbeekjoafijaa
open Go.RowKit Go.Sort

theorem run_clear_rowN {P : Program} (w : World) (t e ty : TypeId) (z : Value) (ht : P.underlying t = some (.slice e)) (hv : ∀ w, (zeroValue e).run P w = .ok z w) (g o n c : Nat) (hn : 0 < n) (cur : Array Value) (te : TypeId)
    (hg : w.heap[g]? = some (.cells cur te (0, 0))) (hfit : o + (Builtin.zeroCells z.cells n).toList.length ≤ cur.size) (h1 : ∀ v ∈ (Builtin.zeroCells z.cells n).toList, v.oneCell' = true) :
    (Builtin.clear_ #[t] ty #[.slice (some ⟨g, o, none⟩) n c]).run P w = .ok (.tuple #[]) (w.setRow g (splice cur.toList o (Builtin.zeroCells z.cells n).toList).toArray) := by
  have hst := run_storeCells_at P g o te (Builtin.zeroCells z.cells n).toList 0 cur w hg (by simpa using hfit) h1
  cases n with
  | zero => omega
  | succ n =>
    simp [Builtin.clear_, run_underlying ht, hv]
    simp at hst
    rw [hst]
    simp [splice]

theorem wp_clear_eq {P : Program} (w : World) {o : Oper} {a : Act} {K : Act → World → Prop} {Q : Exit → Act → World → Prop} (x : Operand) (t : TypeId)
    (ho : o.op = .call { callee := .builtin .clear, args := #[x], argTypes := #[t] }) (v : Value) (hx : a.eval x = v) {v' : Value} {w' : World}
    (hr : (Builtin.clear_ #[t] o.type #[v]).run P w = .ok v' w') (h : K (a.put o.dst v') w') : o.wp P a w K Q := by
  unfold Oper.wp execOp
  simp only [ho, resolve, invoke, builtin, Sem.run_bind, Sem.run_pure, Result.andThen_ok, List.map_toArray, List.map_cons, List.map_nil, hx, hr]
  exact h
theorem wpList_clear_eq {P : Program} (w : World) {ops : Array Oper} {rest : List Oper} {o : Oper} {a : Act} {Q : Exit → Act → World → Prop} (hgd : o.guard = none) (x : Operand) (t : TypeId)
    (ho : o.op = .call { callee := .builtin .clear, args := #[x], argTypes := #[t] }) (v : Value) (hx : a.eval x = v) {v' : Value} {w' : World}
    (hr : (Builtin.clear_ #[t] o.type #[v]).run P w = .ok v' w') (h : wpList P ops Q rest (a.put o.dst v') w') : wpList P ops Q (o :: rest) a w :=
  wpList_plain hgd fun _ hK => wp_clear_eq w x t ho v hx hr (hK _ _ h)

/-! ### plain -/
theorem compactTo_snoc (x : Sh) : ∀ (r : List Sh) (s y : Sh), (s :: r).getLast? = some y →
    compactTo s (r ++ [x]) = if y.left = x.left ∧ y.right = x.right then compactTo s r else compactTo s r ++ [x]
  | [], s, y, h => by
    simp at h; subst h
    simp only [List.nil_append, compactTo]
    split <;> rfl
  | a :: r, s, y, h => by
    rw [List.cons_append]
    unfold compactTo
    by_cases hs : s.left = a.left ∧ s.right = a.right
    · rw [if_pos hs, if_pos hs]
      cases r with
      | nil =>
        simp at h; subst h
        rw [compactTo_snoc x [] s s (by simp)]
        simp only [hs.1, hs.2]
      | cons b r =>
        exact compactTo_snoc x (b :: r) s y (by simpa using h)
    · rw [if_neg hs, if_neg hs, compactTo_snoc x r a y (by simpa using h)]
      split <;> simp

theorem compactS_take {xs : List Sh} {j : Nat} {y x : Sh} (hy : xs[j]? = some y) (hx : xs[j + 1]? = some x) :
    compactS (xs.take (j + 2)) = if y.left = x.left ∧ y.right = x.right then compactS (xs.take (j + 1)) else compactS (xs.take (j + 1)) ++ [x] := by
  have h1 : xs.take (j + 2) = xs.take (j + 1) ++ [x] := by
    obtain ⟨h, rfl⟩ := List.getElem?_eq_some_iff.1 hx
    rw [List.take_succ_eq_append_getElem h]
  rw [h1]
  cases hz : xs.take (j + 1) with
  | nil =>
    have := congrArg List.length hz
    have hj := (List.getElem?_eq_some_iff.1 hy).1
    rw [List.length_take, Nat.min_eq_left (by omega)] at this
    simp at this
  | cons s r =>
    refine compactTo_snoc x r s y ?_
    rw [← hz]
    have hj := (List.getElem?_eq_some_iff.1 hy).1
    rw [List.getLast?_take]
    simp [hy]

theorem compactS_one {xs : List Sh} (h : xs ≠ []) : compactS (xs.take 1) = xs.take 1 := by
  cases xs with
  | nil => exact absurd rfl h
  | cons a r => rfl

theorem compactTo_len : ∀ (r : List Sh) (s : Sh), (compactTo s r).length ≤ r.length + 1 ∧ 0 < (compactTo s r).length
  | [], s => by simp [compactTo]
  | a :: r, s => by
    unfold compactTo
    split
    · have := compactTo_len r s; simp; omega
    · have := compactTo_len r a; simp; omega
theorem compactS_len (xs : List Sh) : (compactS xs).length ≤ xs.length := by
  cases xs with
  | nil => exact Nat.le_refl _
  | cons a r => exact (compactTo_len r a).1
theorem compactS_pos {xs : List Sh} (h : xs ≠ []) : 0 < (compactS xs).length := by
  cases xs with
  | nil => exact absurd rfl h
  | cons a r => exact (compactTo_len r a).2

theorem shRow_set : ∀ (zs : List Sh) (k : Nat) (s : Sh), k < zs.length → (((shRow zs).set (k * 3) (.int .i64 s.top)).set (k * 3 + 1) (.int .i64 s.left)).set (k * 3 + 2) (.int .i64 s.right) = shRow (zs.set k s)
  | [], k, s, h => by simp at h
  | a :: zs, 0, s, _ => by simp [shRow, shCells]
  | a :: zs, k + 1, s, h => by
    have ih := shRow_set zs k s (by simpa using h)
    have e : shRow (a :: zs) = shCells a ++ shRow zs := by simp [shRow]
    have e2 : shRow ((a :: zs).set (k + 1) s) = shCells a ++ shRow (zs.set k s) := by simp [shRow]
    rw [e, e2, ← ih]
    have hl : (shCells a).length = 3 := rfl
    have p : ∀ (l : List Value) (j : Nat) (v : Value), (shCells a ++ l).set (3 + j) v = shCells a ++ l.set j v := by
      intro l j v
      rw [List.set_append_right _ _ (by omega), hl]
      congr 2; omega
    rw [show (k + 1) * 3 = 3 + k * 3 by omega, show 3 + k * 3 + 1 = 3 + (k * 3 + 1) by omega, show 3 + k * 3 + 2 = 3 + (k * 3 + 2) by omega, p, p, p]

def CompPost (w : World) (base g cap : Nat) (ys : List Sh) (e : Ending) (w' : World) : Prop :=
  e = .returned (.slice (some ⟨g, 0, none⟩) ys.length cap) ∧ w'.ownsRow base 32 3 (.slice (some ⟨g, 0, none⟩) ys.length cap) ys.length (shRow ys) ∧ Only w w' (· = g)

def Comp1 (w : World) (xs : List Sh) (vk : Value) (wr : World) : Prop :=
  ∃ m : Nat, vk = .int .i64 ((m : Int) + 1) ∧ m + 1 ≤ xs.length ∧ compactS (xs.take (m + 1)) = xs.take (m + 1) ∧ After w wr

def Comp2 (w : World) (base g cap : Nat) (xs : List Sh) (k0 : Nat) (v2 vk : Value) (wr : World) : Prop :=
  ∃ m : Nat, v2 = .int .i64 ((m : Int) + 1) ∧ k0 + m + 1 ≤ xs.length ∧ vk = .int .i64 (((compactS (xs.take (k0 + m + 1))).length : Nat) : Int) ∧ (compactS (xs.take (k0 + m + 1))).length ≤ k0 + m ∧
    wr.ownsRow base 32 3 (.slice (some ⟨g, 0, none⟩) xs.length cap) xs.length (shRow (compactS (xs.take (k0 + m + 1)) ++ xs.drop (compactS (xs.take (k0 + m + 1))).length)) ∧ Only w wr (· = g)

theorem rowAt_own {w : World} {base g n cap : Nat} {xs : List Sh} (h : w.ownsRow base 32 3 (.slice (some ⟨g, 0, none⟩) n cap) n (shRow xs)) {i : Nat} {s : Sh} (hs : xs[i]? = some s) :
    w.cell? ⟨g, i * 3, none⟩ = some (.int .i64 s.top) ∧ w.cell? ⟨g, i * 3 + 1, none⟩ = some (.int .i64 s.left) ∧ w.cell? ⟨g, i * 3 + 2, none⟩ = some (.int .i64 s.right) := by
  obtain ⟨a, b, c⟩ := shRow_at hs
  have hl := h.1
  rw [shRow_length] at hl
  have hi : i < xs.length := (List.getElem?_eq_some_iff.1 hs).1
  exact ⟨(h.cellAt _ (by omega)).trans a, (h.cellAt _ (by omega)).trans b, (h.cellAt _ (by omega)).trans c⟩

set_option maxRecDepth 100000 in
set_option maxHeartbeats 4000000 in
theorem compact_any {w : World} {base g cap : Nat} {xs : List Sh} (h : w.ownsRow base 32 3 (.slice (some ⟨g, 0, none⟩) xs.length cap) xs.length (shRow xs)) (hn : xs.length ≤ 1000000) (hne : xs ≠ []) :
    Calls Try.prog 88 #[.slice (some ⟨g, 0, none⟩) xs.length cap, .func (.func 89) #[] #[]] w (CompPost w base g cap (compactS xs)) := by
  have hg : g < w.heap.size := (h.lt g rfl).2
  have hcap : xs.length ≤ cap := by obtain ⟨_, _, _, h, _⟩ := ownsRow_get h; exact h
  have hpos : 0 < xs.length := List.length_pos_iff.2 hne
  have H := Lib.hid h
  have hmix := mixed
  clear h
  by_cases h2 : xs.length < 2
  · have e : compactS xs = xs := by
      have := compactS_one hne
      rwa [List.take_of_length_le (by omega)] at this
    have E := Lib.hid e
    clear e
    go_enter Try.func88, Try.ntmps88
    go_wp2
    go_ret
    refine ⟨by rw [E.out]; rfl, ?_, Only.refl _ _⟩
    rw [E.out]; exact H.out
  · have h2' : 2 ≤ xs.length := by omega
    clear h2
    go_enter Try.func88, Try.ntmps88
    go_wp2_with fail
    go_loopw [5] (fun vk wr => Comp1 w xs vk wr) (fun vk _ => xs.length - (intOf vk).toNat)
    case atStart => exact ⟨0, by simp, by omega, compactS_one hne, After.refl _⟩
    case round =>
      obtain ⟨m, rfl, hm, hc, hA⟩ := hrel
      have Hc := Lib.hid hc
      clear hc
      by_cases hlt : m + 1 < xs.length
      · obtain ⟨a, ha⟩ : ∃ a, xs[m]? = some a := ⟨_, List.getElem?_eq_getElem (by omega)⟩
        obtain ⟨b, hb⟩ : ∃ b, xs[m + 1]? = some b := ⟨_, List.getElem?_eq_getElem hlt⟩
        have hrow : wr.ownsRow base 32 3 (.slice (some ⟨g, 0, none⟩) xs.length cap) xs.length (shRow xs) := ownsRow_only H.out (hA.only (fun _ => False)) (fun h => h)
        have Hrow := Lib.hid hrow
        obtain ⟨a0, a1, a2⟩ := rowAt_own hrow ha
        obtain ⟨b0, b1, b2⟩ := rowAt_own hrow hb
        have hgr : g < wr.heap.size := Nat.lt_of_lt_of_le hg hA.size
        have qa0 := fun n os => cell_grown (w := wr) hgr a0 n os
        have qa1 := fun n os => cell_grown (w := wr) hgr a1 n os
        have qa2 := fun n os => cell_grown (w := wr) hgr a2 n os
        have qb0 := fun n os => cell_grown (w := wr) hgr b0 n os
        have qb1 := fun n os => cell_grown (w := wr) hgr b1 n os
        have qb2 := fun n os => cell_grown (w := wr) hgr b2 n os
        have Ha := Lib.hid ha
        have Hb := Lib.hid hb
        clear ha hb a0 a1 a2 b0 b1 b2 hrow
        have hx1 : (0 : Int) ≤ (m : Int) + 1 := by omega
        have hx2 : ((m : Int) + 1).toNat = m + 1 := by omega
        have hx3 : (m : Int) + 1 < (xs.length : Int) := by omega
        have hx4 : (m : Int) < (xs.length : Int) := by omega
        have hx5 : IntKind.i64.wrap (m : Int) = (m : Int) := by rw [IntKind.wrap_i64]; omega
        go_wp2_with fail
        go_quiet_grown ((go_at_call 89; exact Calls.grown_after (add1 _ _ _ _ _ _ _)))
        generalize hw2 : grow (wr.drewN _) _ = w2
        have A2 : After wr w2 := hw2 ▸ After.of_grown _ _
        clear hw2
        have A02 := hA.trans A2
        clear qa0 qa1 qa2 qb0 qb1 qb2 hx1 hx2 hx3 hx4 hx5
        have hct := compactS_take Ha.out Hb.out
        cases hsm : sameLR b.left b.right a.left a.right with
        | false =>
          have hne2 : ¬ (a.left = b.left ∧ a.right = b.right) := by
            unfold sameLR at hsm
            simp at hsm
            rintro ⟨e1, e2⟩
            exact hsm e1.symm e2.symm
          rw [if_neg hne2] at hct
          have Hct := Lib.hid hct
          clear hct hsm hne2
          go_wp2_with fail
          go_roundw
          case rel =>
            refine ⟨m + 1, by go_num, by omega, ?_, A02⟩
            rw [Hct.out, Hc.out]
            exact (List.take_succ_eq_append_getElem hlt).symm ▸ (by rw [(List.getElem?_eq_some_iff.1 Hb.out).2])
          case measure => simp [intOf]; omega
        | true =>
          have heq : a.left = b.left ∧ a.right = b.right := by
            unfold sameLR at hsm
            simp at hsm
            exact ⟨hsm.1.symm, hsm.2.symm⟩
          rw [if_pos heq] at hct
          have Hct := Lib.hid hct
          clear hct hsm heq
          have hcc : ¬ cap = m + 1 := by omega
          have hx3 : (m : Int) + 1 ≤ (xs.length : Int) := by omega
          go_wp2_with fail
          obtain ⟨wo, rfl⟩ : ∃ wo : World, wo = wr := ⟨_, rfl⟩
          go_loopw [7, 5] (fun v2 vk wr => Comp2 w base g cap xs (m + 1) v2 vk wr) (fun v2 _ _ => xs.length - (intOf v2).toNat)
          case atStart =>
            have e : compactS (xs.take (m + 1 + 0 + 1)) = xs.take (m + 1) := by rw [show m + 1 + 0 + 1 = m + 2 by omega, Hct.out, Hc.out]
            have el : (xs.take (m + 1)).length = m + 1 := by rw [List.length_take]; omega
            refine ⟨0, by simp, by omega, by rw [e, el]; go_num, by rw [e, el]; omega, ?_, A02.only _⟩
            rw [e, el, List.take_append_drop]
            exact ownsRow_only H.out (A02.only (fun _ => False)) (fun h => h)
          case round =>
            obtain ⟨q, rfl, hq, rfl, hkl, hown, hO⟩ := hrel
            obtain ⟨ks, hks⟩ : ∃ ks, ks = compactS (xs.take (m + 1 + q + 1)) := ⟨_, rfl⟩
            rw [← hks] at hkl hown ⊢
            have Hks := Lib.hid hks
            clear hks
            have Hown := Lib.hid hown
            clear hown
            by_cases hlt2 : q + 1 < xs.length - (m + 1)
            · obtain ⟨y, hy⟩ : ∃ y, xs[m + 1 + q]? = some y := ⟨_, List.getElem?_eq_getElem (by omega)⟩
              obtain ⟨x, hx⟩ : ∃ x, xs[m + 1 + q + 1]? = some x := ⟨_, List.getElem?_eq_getElem (by omega)⟩
              have hzs : ∀ i, ks.length ≤ i → (ks ++ xs.drop ks.length)[i]? = xs[i]? := fun i hi => by
                rw [List.getElem?_append_right hi, List.getElem?_drop]; congr 1; omega
              obtain ⟨y0, y1, y2⟩ := rowAt_own Hown.out (i := m + 1 + q) ((hzs _ (by omega)).trans hy)
              obtain ⟨x0, x1, x2⟩ := rowAt_own Hown.out (i := m + 1 + q + 1) ((hzs _ (by omega)).trans hx)
              rw [show (m + 1 + q) * 3 = (m + 1) * 3 + q * 3 by omega] at y0 y1 y2
              rw [show (m + 1 + q + 1) * 3 = (m + 1) * 3 + (q + 1) * 3 by omega] at x0 x1 x2
              have hgr : g < wr.heap.size := Nat.lt_of_lt_of_le hg hO.size
              have qy0 := fun n os => cell_grown (w := wr) hgr y0 n os
              have qy1 := fun n os => cell_grown (w := wr) hgr y1 n os
              have qy2 := fun n os => cell_grown (w := wr) hgr y2 n os
              have qx0 := fun n os => cell_grown (w := wr) hgr x0 n os
              have qx1 := fun n os => cell_grown (w := wr) hgr x1 n os
              have qx2 := fun n os => cell_grown (w := wr) hgr x2 n os
              have Hy := Lib.hid hy
              have Hx := Lib.hid hx
              have Hzs := Lib.hid hzs
              clear hy hx hzs y0 y1 y2 x0 x1 x2
              have hx1 : (0 : Int) ≤ (q : Int) + 1 := by omega
              have hx2 : ((q : Int) + 1).toNat = q + 1 := by omega
              have hx3' : (q : Int) + 1 < ((xs.length - (m + 1) : Nat) : Int) := by omega
              have hx4 : (q : Int) < ((xs.length - (m + 1) : Nat) : Int) := by omega
              have hx5 : IntKind.i64.wrap (q : Int) = (q : Int) := by rw [IntKind.wrap_i64]; omega
              go_wp2_with fail
              go_quiet_grown ((go_at_call 89; exact Calls.grown_after (add1 _ _ _ _ _ _ _)))
              generalize hw3 : grow (wr.drewN _) _ = w3
              have A3 : After wr w3 := hw3 ▸ After.of_grown _ _
              clear hw3
              have hO3 : Only w w3 (· = g) := hO.then_after A3
              have hown3 := ownsRow_only Hown.out (A3.only (fun _ => False)) (fun h => h)
              have hct2 := compactS_take Hy.out Hx.out
              rw [show m + 1 + q + 2 = m + 1 + (q + 1) + 1 by omega, ← Hks.out] at hct2
              clear qy0 qy1 qy2 qx0 qx1 qx2 hx1 hx2 hx3' hx4 hx5
              cases hsm : sameLR x.left x.right y.left y.right with
              | true =>
                have heq : y.left = x.left ∧ y.right = x.right := by
                  unfold sameLR at hsm
                  simp at hsm
                  exact ⟨hsm.1.symm, hsm.2.symm⟩
                rw [if_pos heq] at hct2
                have Hct2 := Lib.hid hct2
                have Hown3 := Lib.hid hown3
                clear hct2 hsm heq hown3
                go_wp2_with fail
                go_roundw
                case rel =>
                  refine ⟨q + 1, by go_num, by omega, by rw [Hct2.out], by rw [Hct2.out]; omega, ?_, hO3⟩
                  rw [Hct2.out]; exact Hown3.out
                case measure => simp [intOf]; omega
              | false =>
                have hne2 : ¬ (y.left = x.left ∧ y.right = x.right) := by
                  unfold sameLR at hsm
                  simp at hsm
                  rintro ⟨e1, e2⟩
                  exact hsm e1.symm e2.symm
                rw [if_neg hne2] at hct2
                have Hct2 := Lib.hid hct2
                obtain ⟨z, hz⟩ : ∃ z, (ks ++ xs.drop ks.length)[ks.length]? = some z := by
                  rw [Hzs.out _ (Nat.le_refl _)]
                  exact ⟨_, List.getElem?_eq_getElem (by omega)⟩
                obtain ⟨z0, z1, z2⟩ := rowAt_own hown3 hz
                obtain ⟨x0, x1, x2⟩ := rowAt_own hown3 (i := m + 1 + q + 1) ((Hzs.out _ (by omega)).trans Hx.out)
                rw [show (m + 1 + q + 1) * 3 = (m + 1) * 3 + (q + 1) * 3 by omega] at x0 x1 x2
                have hfz := hown3.frozenAt
                have s1 := hown3.stored (ks.length * 3) (.int .i64 x.top)
                have s2 := s1.1.stored (ks.length * 3 + 1) (.int .i64 x.left)
                have s3 := s2.1.stored (ks.length * 3 + 2) (.int .i64 x.right)
                have S1 := Lib.hid s1
                have S2 := Lib.hid s2
                have S3 := Lib.hid s3
                have hklen : ks.length < (ks ++ xs.drop ks.length).length := (List.getElem?_eq_some_iff.1 hz).1
                have hset := shRow_set (ks ++ xs.drop ks.length) ks.length x hklen
                have hset2 : (ks ++ xs.drop ks.length).set ks.length x = (ks ++ [x]) ++ xs.drop (ks.length + 1) := by
                  have hd : (xs.drop ks.length).set 0 x = x :: xs.drop (ks.length + 1) := by
                    rw [List.drop_eq_getElem_cons (show ks.length < xs.length by omega)]
                    rfl
                  rw [List.set_append_right _ _ (Nat.le_refl _), Nat.sub_self, hd]
                  simp
                have Hset := Lib.hid hset
                have Hset2 := Lib.hid hset2
                clear hct2 hsm hne2 hz s1 s2 s3 hset hset2 hown3 hklen
                go_wp2_with fail
                go_roundw
                case rel =>
                  refine ⟨q + 1, by go_num, by omega, ?_, ?_, ?_, ?_⟩
                  · rw [Hct2.out, List.length_append]; go_num
                  · rw [Hct2.out, List.length_append]; simp; omega
                  · rw [Hct2.out, List.length_append, show ks.length + [x].length = ks.length + 1 from rfl, ← Hset2.out, ← Hset.out]
                    exact S3.out.1
                  · exact ((hO3.trans (Only.setCell _ _ _) (fun _ _ h => h)).trans (Only.setCell _ _ _) (fun _ _ h => h)).trans (Only.setCell _ _ _) (fun _ _ h => h)
                case measure => simp [intOf]; omega
            · have hend : m + 1 + q + 1 = xs.length := by omega
              have hkc : ks = compactS xs := by rw [Hks.out, hend, List.take_of_length_le (Nat.le_refl _)]
              obtain ⟨cur, g0, g1, g2, g3, g4, g5, g6⟩ := ownsRow_get Hown.out
              have hzl : (Builtin.zeroCells (Value.agg #[.int .i64 0, .int .i64 0, .int .i64 0]).cells (xs.length - ks.length)).toList.length = (xs.length - ks.length) * 3 := by
                rw [Array.length_toList, size_zeroCells]; rfl
              have hclr : ∀ ty c, (Builtin.clear_ #[29] ty #[.slice (some ⟨g, ks.length * 3, none⟩) (xs.length - ks.length) c]).run Try.prog wr = .ok (.tuple #[]) (wr.setRow g (splice cur.toList (ks.length * 3) (Builtin.zeroCells (Value.agg #[.int .i64 0, .int .i64 0, .int .i64 0]).cells (xs.length - ks.length)).toList).toArray) := by
                intro ty c
                refine run_clear_rowN wr _ 32 ty _ Try.underlying29 (fun _ => by kernel_rfl) g _ _ c (by omega) cur 32 g1 ?_ ?_
                · rw [hzl, g4]; omega
                · intro v hv
                  obtain ⟨j, _, rfl⟩ : ∃ j, j < (xs.length - ks.length) * 3 ∧ (#[Value.int .i64 0, .int .i64 0, .int .i64 0] : Array Value)[j % 3]! = v := by
                    simpa [Builtin.zeroCells, Value.cells] using hv
                  rcases (show j % 3 = 0 ∨ j % 3 = 1 ∨ j % 3 = 2 by omega) with e | e | e <;> rw [e] <;> rfl
              have hcap2 : ¬ cap = ks.length := by omega
              have hfin : CompPost w base g cap (compactS xs) (.returned (.slice (some ⟨g, 0, none⟩) ks.length cap)) (wr.setRow g (splice cur.toList (ks.length * 3) (Builtin.zeroCells (Value.agg #[.int .i64 0, .int .i64 0, .int .i64 0]).cells (xs.length - ks.length)).toList).toArray) := by
                rw [← hkc]
                have hcl : cur.toList.length = cap * 3 := by rw [Array.length_toList]; exact g4
                have hks6 := congrArg List.length g5
                rw [List.length_take, shRow_length, List.length_append, List.length_drop] at hks6
                refine ⟨rfl, ownsRow_mk g0 (setRow_heap wr g cur _ _ _ g1) (by omega) g3 ?_ ?_ (shRow_length _), hO.trans ?_ (fun _ _ h => h)⟩
                · rw [List.size_toArray, length_splice _ _ _ (by rw [hzl, hcl]; omega), hcl]
                · unfold splice
                  have e1 : (cur.toList.take (ks.length * 3)) = shRow ks := by
                    have := congrArg (List.take (ks.length * 3)) g5
                    rw [List.take_take, Nat.min_eq_left (by omega), shRow_take, List.take_left] at this
                    exact this
                  show List.take (ks.length * 3) (cur.toList.take (ks.length * 3) ++ _) = _
                  rw [e1, List.take_append_of_le_length (by rw [shRow_length]; exact Nat.le_refl _), List.take_of_length_le (by rw [shRow_length]; exact Nat.le_refl _)]
                · exact ⟨rfl, rfl, rfl, by simp, Nat.le_refl _, fun k _ hk => setRow_other _ _ _ _ hk⟩
              have HF := Lib.hid hfin
              clear hfin hzl g1 g4 g5 g6 hkc hend
              unfold maxLen at g3
              go_wp2_with (at_builtin; refine wpList_clear_eq _ rfl _ 29 rfl _ rfl (hclr _ _) ?_)
              go_ret
              exact HF.out
      · have e : m + 1 = xs.length := by omega
        have e2 : compactS xs = xs := by
          have := Hc.out
          rwa [e, List.take_of_length_le (Nat.le_refl _)] at this
        have E2 := Lib.hid e2
        clear e e2
        go_wp2_with fail
        go_ret
        refine ⟨by rw [E2.out]; rfl, ?_, hA.only _⟩
        rw [E2.out]
        exact ownsRow_only H.out (hA.only (fun _ => False)) (fun h => h)
end Go.Proofs.Ytefbeekjoafijaa
