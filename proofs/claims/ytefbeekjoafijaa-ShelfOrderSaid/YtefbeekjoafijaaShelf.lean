/- Contracts of the shelves' reading functions. -/
import Derived.Test.YtefbeekjoafijaaLeaf
namespace Go.Proofs.Ytefbeekjoafijaa
open Go.RowKit Go.Sort

/-- the shelves lie in block g, one behind the other -/
def RowAt (w : World) (g : Nat) (xs : List Sh) : Prop :=
  g < w.heap.size ∧ ∀ i (s : Sh), xs[i]? = some s → w.cell? ⟨g, i * 3, none⟩ = some (.int .i64 s.top) ∧ w.cell? ⟨g, i * 3 + 1, none⟩ = some (.int .i64 s.left) ∧ w.cell? ⟨g, i * 3 + 2, none⟩ = some (.int .i64 s.right)

theorem RowAt.after {w w' : World} {g : Nat} {xs : List Sh} (h : RowAt w g xs) (k : After w w') : RowAt w' g xs :=
  ⟨Nat.lt_of_lt_of_le h.1 k.size, fun i s hs => by rw [k.cell h.1, k.cell h.1, k.cell h.1]; exact h.2 i s hs⟩

/-- where a row would be sought -/
structure Sought (xs : List Sh) (y : Int) (r : Nat) : Prop where
  le : r ≤ xs.length
  lo : ∀ k s, xs[k]? = some s → k < r → s.top < y
  hi : ∀ k s, xs[k]? = some s → r ≤ k → y ≤ s.top

def foundAt (xs : List Sh) (y : Int) (r : Nat) : Bool := match xs[r]? with | some s => decide (s.top = y) | none => false

def SoughtPost (xs : List Sh) (y : Int) (w : World) (e : Ending) (w' : World) : Prop :=
  ∃ r : Nat, Sought xs y r ∧ e = .returned (.tuple #[.int .i64 r, .bool (foundAt xs y r)]) ∧ After w w'

def SeekRel (xs : List Sh) (y : Int) (w : World) (vi vj : Value) (wr : World) : Prop :=
  ∃ i j : Nat, vi = .int .i64 i ∧ vj = .int .i64 j ∧ i ≤ j ∧ j ≤ xs.length ∧ (∀ k s, xs[k]? = some s → k < i → s.top < y) ∧ (∀ k s, xs[k]? = some s → j ≤ k → y ≤ s.top) ∧ After w wr

def Rising (xs : List Sh) : Prop := xs.Pairwise (fun a b => a.top < b.top)

theorem rising_lt {xs : List Sh} (h : Rising xs) {i j : Nat} {a b : Sh} (ha : xs[i]? = some a) (hb : xs[j]? = some b) (hij : i < j) : a.top < b.top := by
  obtain ⟨h1, rfl⟩ := List.getElem?_eq_some_iff.1 ha
  obtain ⟨h2, rfl⟩ := List.getElem?_eq_some_iff.1 hb
  exact List.pairwise_iff_getElem.1 h i j h1 h2 hij

set_option maxHeartbeats 1000000 in
theorem search (F : Nat) (hF : F = 91 ∨ F = 93) (g cap : Nat) (xs : List Sh) (hs : Rising xs) (y : Int) (w : World) (hr : RowAt w g xs) (hn : xs.length ≤ 1073741824) (_hc : xs.length ≤ cap) :
    Calls Try.prog 90 #[.slice (some ⟨g, 0, none⟩) xs.length cap, .int .i64 y, .func (.func F) #[] #[]] w (SoughtPost xs y w) := by
  have hcall : ∀ (s : Sh) (W : World), Calls Try.prog F #[.agg #[.int .i64 s.top, .int .i64 s.left, .int .i64 s.right], .int .i64 y] W (Ret (.int .i64 (cmp3 s.top y)) W) := by
    intro s W
    rcases hF with rfl | rfl
    · exact find1 _ _ _ _ _
    · exact after1 _ _ _ _ _
  have Hcall := Lib.hid hcall
  clear hcall
  rcases hF with rfl | rfl
  all_goals
    go_enter Try.func90, Try.ntmps90
    go_wp2_with fail
    go_loopw [9, 10] (fun vi vj wr => SeekRel xs y w vi vj wr) (fun vi vj _ => (intOf vj - intOf vi).toNat)
    case atStart => exact ⟨0, xs.length, rfl, rfl, Nat.zero_le _, Nat.le_refl _, fun k s _ h => absurd h (by omega), fun k s h1 h2 => (by rw [List.getElem?_eq_none h2] at h1; cases h1), After.refl _⟩
    case round =>
      obtain ⟨i, j, rfl, rfl, hij, hjn, hlo, hhi, hw⟩ := hrel
      have hrow := hr.after hw
      have hlo' := Lib.hid hlo; clear hlo
      have hhi' := Lib.hid hhi; clear hhi
      have hr' := Lib.hid hr; clear hr
      have hs' := Lib.hid hs; clear hs
      by_cases hlt : i < j
      · have hm : (i + j) / 2 < xs.length := by omega
        obtain ⟨s, hsm⟩ : ∃ s, xs[(i + j) / 2]? = some s := ⟨_, List.getElem?_eq_getElem hm⟩
        obtain ⟨c0, c1, c2⟩ := hrow.2 _ s hsm
        have hsm' := Lib.hid hsm; clear hsm
        have hrow' := Lib.hid hrow; clear hrow
        by_cases hcmp : s.top < y
        · have hneg : decide (cmp3 s.top y < 0) = true := by unfold cmp3; rw [if_pos hcmp]; decide
          go_wp2_with fail
          refine (Hcall.out s _).mono ?_
          rintro e w1 ⟨rfl, hw1⟩
          go_wp2_with fail
          all_goals go_roundw
          case rel =>
            refine ⟨(i + j) / 2 + 1, j, by go_num, rfl, by omega, hjn, ?_, hhi'.out, hw.trans hw1⟩
            intro k s' hk hkl
            rcases Nat.lt_or_ge k ((i + j) / 2) with h | h
            · have := rising_lt hs'.out hk hsm'.out h; omega
            · have : k = (i + j) / 2 := by omega
              subst this
              rw [hsm'.out] at hk; cases hk; exact hcmp
          case measure => simp [intOf]; omega
        · have hneg : decide (cmp3 s.top y < 0) = false := by unfold cmp3; rw [if_neg hcmp]; split <;> decide
          go_wp2_with fail
          refine (Hcall.out s _).mono ?_
          rintro e w1 ⟨rfl, hw1⟩
          go_wp2_with fail
          all_goals go_roundw
          case rel =>
            refine ⟨i, (i + j) / 2, rfl, by go_num, by omega, by omega, hlo'.out, ?_, hw.trans hw1⟩
            intro k s' hk hkl
            rcases Nat.lt_or_ge ((i + j) / 2) k with h | h
            · have := rising_lt hs'.out hsm'.out hk h; omega
            · have : k = (i + j) / 2 := by omega
              subst this
              rw [hsm'.out] at hk; cases hk; omega
          case measure => simp [intOf]; omega
      · have hji : i = j := by omega
        subst hji
        by_cases hin : i < xs.length
        · obtain ⟨s, hsm⟩ : ∃ s, xs[i]? = some s := ⟨_, List.getElem?_eq_getElem hin⟩
          obtain ⟨c0, c1, c2⟩ := hrow.2 _ s hsm
          have hsm' := Lib.hid hsm; clear hsm
          have hrow' := Lib.hid hrow; clear hrow
          go_wp2_with fail
          refine (Hcall.out s _).mono ?_
          rintro e w1 ⟨rfl, hw1⟩
          go_wp2_with fail
          go_ret2
          refine ⟨i, ⟨hjn, hlo'.out, hhi'.out⟩, ret_ib rfl ?_, hw.trans hw1⟩
          unfold foundAt
          rw [hsm'.out]
          unfold cmp3
          rw [Bool.eq_iff_iff]
          simp
          split <;> (try split) <;> omega
        · clear hrow
          go_wp2_with fail
          go_ret2
          refine ⟨i, ⟨hjn, hlo'.out, hhi'.out⟩, ret_ib rfl ?_, hw⟩
          unfold foundAt
          rw [List.getElem?_eq_none (by omega)]
          try rfl

end Go.Proofs.Ytefbeekjoafijaa
