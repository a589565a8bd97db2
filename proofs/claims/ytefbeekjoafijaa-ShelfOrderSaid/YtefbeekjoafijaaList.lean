/- The list of shelves in memory, and its reading functions: find, After. -/
import Derived.Test.YtefbeekjoafijaaShelf
namespace Go.Proofs.Ytefbeekjoafijaa
open Go.RowKit Go.Sort

/-! ### a list of shelves in memory -/
def shCells (s : Sh) : List Value := [.int .i64 s.top, .int .i64 s.left, .int .i64 s.right]
def shRow (xs : List Sh) : List Value := xs.flatMap shCells

theorem shRow_length (xs : List Sh) : (shRow xs).length = xs.length * 3 := by
  unfold shRow
  induction xs with
  | nil => rfl
  | cons a xs ih => rw [List.flatMap_cons, List.length_append, ih, List.length_cons]; simp [shCells]; omega

theorem shRow_at : ∀ {xs : List Sh} {i : Nat} {s : Sh}, xs[i]? = some s → (shRow xs)[i * 3]? = some (.int .i64 s.top) ∧ (shRow xs)[i * 3 + 1]? = some (.int .i64 s.left) ∧ (shRow xs)[i * 3 + 2]? = some (.int .i64 s.right)
  | [], i, s, h => by simp at h
  | a :: xs, 0, s, h => by
    simp at h; subst h
    simp [shRow, shCells]
  | a :: xs, i + 1, s, h => by
    have := shRow_at (xs := xs) (i := i) (s := s) (by simpa using h)
    unfold shRow at this ⊢
    rw [List.flatMap_cons]
    have e : ∀ k, (shCells a ++ List.flatMap shCells xs)[(i + 1) * 3 + k]? = (List.flatMap shCells xs)[i * 3 + k]? := by
      intro k
      rw [List.getElem?_append_right (by simp [shCells]; omega)]
      congr 1
      simp [shCells]; omega
    exact ⟨(e 0).trans this.1, (e 1).trans this.2.1, (e 2).trans this.2.2⟩

/-- the value of a slice that owns its row -/
def slv (g n cap : Nat) : Value := .slice (some ⟨g, 0, none⟩) n cap

/-- the list of shelves xs: its object in block L, its row in block g -/
structure ListAt (w : World) (base L g cap : Nat) (xs : List Sh) : Prop where
  obj : Blk w L 105 #[.slice (some ⟨g, 0, none⟩) xs.length cap]
  row : w.ownsRow base 32 3 (.slice (some ⟨g, 0, none⟩) xs.length cap) xs.length (shRow xs)
  low : base ≤ L
  ne : xs ≠ []
  rising : Rising xs
  small : xs.length ≤ 1000000

theorem ListAt.rowAt {w : World} {base L g cap : Nat} {xs : List Sh} (h : ListAt w base L g cap xs) : RowAt w g xs := by
  have hpos : 0 < xs.length := List.length_pos_iff.2 h.ne
  refine ⟨?_, fun i s hs => ?_⟩
  · have := h.row.lt g rfl
    exact this.2
  · obtain ⟨a, b, c⟩ := shRow_at hs
    have hi : i < xs.length := (List.getElem?_eq_some_iff.1 hs).1
    exact ⟨(h.row.cellAt _ (by omega)).trans a, (h.row.cellAt _ (by omega)).trans b, (h.row.cellAt _ (by omega)).trans c⟩

theorem ListAt.cap_le {w : World} {base L g cap : Nat} {xs : List Sh} (h : ListAt w base L g cap xs) : xs.length ≤ cap := by
  rcases h.row.2 with ⟨h', _⟩ | ⟨g', cap', cur, h', _, _, hnc, _⟩
  · cases h'
  · injection h' with _ _ e; omega

theorem ListAt.after {w w' : World} {base L g cap : Nat} {xs : List Sh} (h : ListAt w base L g cap xs) (k : After w w') : ListAt w' base L g cap xs :=
  ⟨h.obj.after k, h.row.kept (row := none) ⟨k.os, k.tape, k.output, k.size, fun j hj _ => k.block j hj⟩ (by simp [Value.ownBlock]), h.low, h.ne, h.rising, h.small⟩

theorem ListAt.L_lt {w : World} {base L g cap : Nat} {xs : List Sh} (h : ListAt w base L g cap xs) : L < w.heap.size := h.obj.lt
theorem ListAt.g_lt {w : World} {base L g cap : Nat} {xs : List Sh} (h : ListAt w base L g cap xs) : g < w.heap.size := h.rowAt.1
theorem ListAt.ne_g {w : World} {base L g cap : Nat} {xs : List Sh} (h : ListAt w base L g cap xs) : L ≠ g := by
  rintro rfl
  rcases h.row.2 with ⟨h', _⟩ | ⟨g', cap', cur, h', _, hg, _⟩
  · cases h'
  · injection h' with e _ _
    injection e with e; injection e with e
    subst e
    have := h.obj
    unfold Blk at this
    rw [this] at hg
    injection hg with hg
    injection hg with _ hg
    cases hg

theorem findS_eq (y : Int) : ∀ {xs : List Sh}, Rising xs → ∀ k, k < xs.length → (k = 0 ∨ ∀ s, xs[k]? = some s → s.top ≤ y) → (∀ j s, k < j → xs[j]? = some s → y < s.top) → findS y xs = k
  | [], _, k, hk, _, _ => absurd hk (by simp)
  | [s], _, k, hk, _, _ => by simp at hk; subst hk; rfl
  | s :: s' :: r, h, k, hk, h1, h2 => by
    unfold findS
    by_cases hle : s'.top ≤ y
    · rw [if_pos hle]
      cases k with
      | zero => have := h2 1 s' (by omega) rfl; omega
      | succ k =>
        rw [findS_eq y (List.pairwise_cons.1 h).2 k (by simpa using hk) ?_ ?_]
        · rcases k with _ | k
          · exact .inl rfl
          · refine .inr fun t ht => ?_
            rcases h1 with h1 | h1
            · omega
            · exact h1 t (by simpa using ht)
        · intro j t hj ht
          exact h2 (j + 1) t (by omega) (by simpa using ht)
    · rw [if_neg hle]
      cases k with
      | zero => rfl
      | succ k =>
        exfalso
        rcases h1 with h1 | h1
        · omega
        · obtain ⟨t, ht⟩ : ∃ t, (s :: s' :: r)[k + 1]? = some t := ⟨_, List.getElem?_eq_getElem hk⟩
          have a := h1 t ht
          have b : s'.top ≤ t.top := by
            rcases k with _ | k
            · simp at ht; subst ht; exact Int.le_refl _
            · exact Int.le_of_lt (rising_lt h (i := 1) (j := k + 2) rfl ht (by omega))
          omega

theorem findS_of_sought {y : Int} {xs : List Sh} {r : Nat} (hne : xs ≠ []) (h : Rising xs) (k : Sought xs y r) : (findS y xs : Int) = if foundAt xs y r then (r : Int) else max ((r : Int) - 1) 0 := by
  have hpos : 0 < xs.length := List.length_pos_iff.2 hne
  unfold foundAt
  cases hr : xs[r]? with
  | none =>
    have hle : xs.length ≤ r := List.getElem?_eq_none_iff.1 hr
    have := k.le
    have e : findS y xs = r - 1 := findS_eq y h (r - 1) (by omega) (.inr fun s hs => Int.le_of_lt (k.lo _ s hs (by omega))) (fun j s hj hs => by
      have := (List.getElem?_eq_some_iff.1 hs).1; omega)
    rw [e]; simp; omega
  | some s =>
    have hlt : r < xs.length := (List.getElem?_eq_some_iff.1 hr).1
    by_cases hs : s.top = y
    · simp only [hs, decide_true, if_true]
      rw [findS_eq y h r hlt (.inr fun t ht => by rw [hr] at ht; cases ht; omega) (fun j t hj ht => by have := rising_lt h hr ht hj; omega)]
    · simp only [hs, decide_false]
      have hgt : y < s.top := by have := k.hi r s hr (Nat.le_refl _); omega
      rw [findS_eq y h (r - 1) (by omega) ?_ ?_]
      · simp; omega
      · rcases Nat.eq_zero_or_pos r with h0 | h0
        · exact .inl (by omega)
        · exact .inr fun t ht => Int.le_of_lt (k.lo _ t ht (by omega))
      · intro j t hj ht
        rcases Nat.lt_or_ge r j with h' | h'
        · have := rising_lt h hr ht h'; omega
        · have : j = r := by omega
          subst this; rw [hr] at ht; cases ht; exact hgt

def nextS (y : Int) (xs : List Sh) : Int × Bool := match topsBelow y xs with | [] => (0, false) | t :: _ => (t, true)

theorem nextS_none {y : Int} : ∀ {xs : List Sh}, (∀ s ∈ xs, s.top ≤ y) → nextS y xs = (0, false)
  | [], _ => rfl
  | s :: r, h => by
    have := nextS_none (xs := r) (fun s hs => h s (List.mem_cons_of_mem _ hs))
    unfold nextS topsBelow
    rw [if_neg (by have := h s (by simp); omega)]
    exact this
theorem nextS_some {y : Int} : ∀ {xs : List Sh} {r : Nat} {s : Sh}, xs[r]? = some s → y < s.top → (∀ k t, k < r → xs[k]? = some t → t.top ≤ y) → nextS y xs = (s.top, true)
  | [], r, s, h, _, _ => by simp at h
  | a :: q, 0, s, h, hy, _ => by
    simp at h; subst h
    unfold nextS topsBelow
    rw [if_pos hy]
  | a :: q, r + 1, s, h, hy, hl => by
    have := nextS_some (xs := q) (r := r) (s := s) (by simpa using h) hy (fun k t hk ht => hl (k + 1) t (by omega) (by simpa using ht))
    unfold nextS topsBelow
    rw [if_neg (by have := hl 0 a (by omega) rfl; omega)]
    exact this

theorem nextS_of_sought {y : Int} {xs : List Sh} {r : Nat} (h : Rising xs) (k : Sought xs y r) : nextS y xs = match xs[if foundAt xs y r then r + 1 else r]? with | some s => (s.top, true) | none => (0, false) := by
  have hlo : ∀ j t, j < r → xs[j]? = some t → t.top ≤ y := fun j t hj ht => Int.le_of_lt (k.lo _ t ht hj)
  unfold foundAt
  cases hr : xs[r]? with
  | none =>
    simp only [Bool.false_eq_true, if_false, hr]
    refine nextS_none fun s hs => ?_
    obtain ⟨j, hj, rfl⟩ := List.getElem_of_mem hs
    have hle : xs.length ≤ r := List.getElem?_eq_none_iff.1 hr
    exact hlo j _ (by omega) (List.getElem?_eq_getElem hj)
  | some s =>
    by_cases hs : s.top = y
    · simp only [hs, decide_true, if_true]
      have hlo' : ∀ j t, j < r + 1 → xs[j]? = some t → t.top ≤ y := by
        intro j t hj ht
        rcases Nat.lt_or_ge j r with h' | h'
        · exact hlo j t h' ht
        · have : j = r := by omega
          subst this; rw [hr] at ht; cases ht; omega
      cases hr' : xs[r + 1]? with
      | none =>
        refine nextS_none fun t ht => ?_
        obtain ⟨j, hj, rfl⟩ := List.getElem_of_mem ht
        have hle : xs.length ≤ r + 1 := List.getElem?_eq_none_iff.1 hr'
        exact hlo' j _ (by omega) (List.getElem?_eq_getElem hj)
      | some t =>
        exact nextS_some hr' (by have := rising_lt h hr hr' (by omega); omega) hlo'
    · simp only [hs, decide_false, Bool.false_eq_true, if_false, hr]
      exact nextS_some hr (by have := k.hi r s hr (Nat.le_refl _); omega) hlo

set_option maxHeartbeats 1000000 in
theorem find_any {w : World} {base L g cap : Nat} {xs : List Sh} (h : ListAt w base L g cap xs) (y : Int) :
    Calls Try.prog 68 #[.pointer (some ⟨L, 0, none⟩), .int .i64 y] w (Ret (.int .i64 (findS y xs)) w) := by
  have hL := h.obj.cell
  have H := Lib.hid h
  clear h
  go_enter Try.func68, Try.ntmps68
  go_wp2_with fail
  refine (search _ (.inl rfl) g cap xs H.out.rising y _ H.out.rowAt (Nat.le_trans H.out.small (by decide)) H.out.cap_le).mono ?_
  rintro e w1 ⟨r, hso, rfl, hw1⟩
  have hr := hso.le
  have hsm := H.out.small
  have Hf := Lib.hid (findS_of_sought H.out.ne H.out.rising hso)
  have hso' := Lib.hid hso
  clear hso
  cases hfd : foundAt xs y r with
  | true =>
    go_wp2
    all_goals (go_ret; refine ⟨ret_int ?_, hw1⟩; rw [Hf.out, hfd]; simp; try omega)
  | false =>
    go_wp2
    all_goals (go_ret; refine ⟨ret_int ?_, hw1⟩; rw [Hf.out, hfd]; simp; try omega)

set_option maxHeartbeats 1000000 in
theorem after_any {w : World} {base L g cap : Nat} {xs : List Sh} (h : ListAt w base L g cap xs) (y : Int) :
    Calls Try.prog 71 #[.pointer (some ⟨L, 0, none⟩), .int .i64 y] w (Ret (.tuple #[.int .i64 (nextS y xs).1, .bool (nextS y xs).2]) w) := by
  have hL := h.obj.cell
  have H := Lib.hid h
  clear h
  go_enter Try.func71, Try.ntmps71
  go_wp2_with fail
  refine (search _ (.inr rfl) g cap xs H.out.rising y _ H.out.rowAt (Nat.le_trans H.out.small (by decide)) H.out.cap_le).mono ?_
  rintro e w1 ⟨r, hso, rfl, hw1⟩
  have hr := hso.le
  have hsm := H.out.small
  have Hf := Lib.hid (nextS_of_sought H.out.rising hso)
  have hL1 := (H.out.after hw1).obj.cell
  have hrow := (H.out.after hw1).rowAt
  clear hL hso
  have Hrow := Lib.hid hrow
  clear hrow
  cases hfd : foundAt xs y r with
  | true =>
    have hlt : r < xs.length := by
      unfold foundAt at hfd
      cases hr' : xs[r]? with
      | none => rw [hr'] at hfd; cases hfd
      | some s => exact (List.getElem?_eq_some_iff.1 hr').1
    cases hx : xs[r + 1]? with
    | none =>
      have hge : xs.length ≤ r + 1 := List.getElem?_eq_none_iff.1 hx
      have he : ((r : Int) + 1 == (xs.length : Int)) = true := by rw [beq_iff_eq]; omega
      have Hx := Lib.hid hx
      clear hx
      go_wp2
      go_ret2
      refine ⟨?_, hw1⟩
      rw [Hf.out, hfd, if_pos rfl, Hx.out]
      rfl
    | some s =>
      have hge : r + 1 < xs.length := (List.getElem?_eq_some_iff.1 hx).1
      have he : ((r : Int) + 1 == (xs.length : Int)) = false := by rw [beq_eq_false_iff_ne]; omega
      obtain ⟨c0, _, _⟩ := Hrow.out.2 _ s hx
      have Hx := Lib.hid hx
      clear hx
      go_wp2
      go_ret2
      refine ⟨?_, hw1⟩
      rw [Hf.out, hfd, if_pos rfl, Hx.out]
      rfl
  | false =>
    cases hx : xs[r]? with
    | none =>
      have hge : xs.length ≤ r := List.getElem?_eq_none_iff.1 hx
      have he : ((r : Int) == (xs.length : Int)) = true := by rw [beq_iff_eq]; omega
      have Hx := Lib.hid hx
      clear hx
      go_wp2
      go_ret2
      refine ⟨?_, hw1⟩
      rw [Hf.out, hfd, if_neg (by decide), Hx.out]
      rfl
    | some s =>
      have hge : r < xs.length := (List.getElem?_eq_some_iff.1 hx).1
      have he : ((r : Int) == (xs.length : Int)) = false := by rw [beq_eq_false_iff_ne]; omega
      obtain ⟨c0, _, _⟩ := Hrow.out.2 _ s hx
      have Hx := Lib.hid hx
      clear hx
      go_wp2
      go_ret2
      refine ⟨?_, hw1⟩
      rw [Hf.out, hfd, if_neg (by decide), Hx.out]
      rfl

end Go.Proofs.Ytefbeekjoafijaa
