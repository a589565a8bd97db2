/- place: where a float may stand: its columns (at), what sticks out (sticks), At, Start. -/
import Derived.Test.YtefbeekjoafijaaGuard12
namespace Go.Proofs.Ytefbeekjoafijaa
open Go.RowKit Go.Sort
set_option linter.unusedVariables false
set_option linter.unusedSimpArgs false
attribute [local irreducible] wpQuiet

/-! ### plain -/
def atL (side p q wd : Int) : Int := if side = 1 then p else q - wd
def atR (side p q wd : Int) : Int := if side = 1 then p + wd else q
theorem atL_1 (p q wd : Int) : atL 1 p q wd = p := rfl
theorem atR_1 (p q wd : Int) : atR 1 p q wd = p + wd := rfl
theorem atL_2 (p q wd : Int) : atL 2 p q wd = q - wd := rfl
theorem atR_2 (p q wd : Int) : atR 2 p q wd = q := rfl
def sticksP (side a b wd : Int) (x : Int × Int) : Bool := decide (b - a < wd ∧ x.1 ≤ atL side a b wd ∧ atR side a b wd ≤ x.2)
def fitsP (side a b wd : Int) (x : Int × Int) : Bool := decide (wd ≤ min b x.2 - max a x.1) || sticksP side a b wd x
def leftP (side a b wd : Int) (x : Int × Int) : Int := atL side (max a x.1) (min b x.2) wd

theorem fitsP_iff1 (a b wd : Int) (x : Int × Int) : fitsP 1 a b wd x = true ↔ wd ≤ min b x.2 - max a x.1 ∨ (b - a < wd ∧ x.1 ≤ a ∧ a + wd ≤ x.2) := by
  show (decide (wd ≤ min b x.2 - max a x.1) || decide (b - a < wd ∧ x.1 ≤ a ∧ a + wd ≤ x.2)) = true ↔ _
  simp only [Bool.or_eq_true, decide_eq_true_eq]
theorem fitsP_iff2 (a b wd : Int) (x : Int × Int) : fitsP 2 a b wd x = true ↔ wd ≤ min b x.2 - max a x.1 ∨ (b - a < wd ∧ x.1 ≤ b - wd ∧ b ≤ x.2) := by
  show (decide (wd ≤ min b x.2 - max a x.1) || decide (b - a < wd ∧ x.1 ≤ b - wd ∧ b ≤ x.2)) = true ↔ _
  simp only [Bool.or_eq_true, decide_eq_true_eq]

theorem fitsP_fair (fs : List Flt) (ht : Int) {side a b wd : Int} (hs : side = 1 ∨ side = 2) (ha : L48 a) (hb : L48 b) (hw : L48 wd) : Fair fs ht (fitsP side a b wd) := by
  unfold L48 at ha hb hw
  rcases hs with rfl | rfl
  · constructor
    · intro p p' h1 h2 h
      rw [fitsP_iff1] at h ⊢
      omega
    · rw [fitsP_iff1]
      unfold Far
      show wd ≤ min b 4503599627370496 - max a (-4503599627370496) ∨ (b - a < wd ∧ -4503599627370496 ≤ a ∧ a + wd ≤ 4503599627370496)
      omega
  · constructor
    · intro p p' h1 h2 h
      rw [fitsP_iff2] at h ⊢
      omega
    · rw [fitsP_iff2]
      unfold Far
      show wd ≤ min b 4503599627370496 - max a (-4503599627370496) ∨ (b - a < wd ∧ -4503599627370496 ≤ b - wd ∧ b ≤ 4503599627370496)
      omega

def PW (side clear a b wd ht y : Int) : Array Value := #[.int .i64 side, .int .i64 clear, .int .i64 a, .int .i64 b, .int .i64 wd, .int .i64 ht, .int .i64 y]

/-! ### at, sticks -/
theorem want_at (side clear a b wd ht y p q : Int) (w : World) (hs : side = 1 ∨ side = 2) (hp : -4503599627370496 ≤ p ∧ p ≤ 4503599627370496) (hq : -4503599627370496 ≤ q ∧ q ≤ 4503599627370496) (hw : L48 wd) :
    Calls Try.prog 99 #[.agg #[.int .i64 side, .int .i64 clear, .int .i64 a, .int .i64 b, .int .i64 wd, .int .i64 ht, .int .i64 y], .agg #[.int .i64 p, .int .i64 q]] w (Ret (.agg #[.int .i64 (atL side p q wd), .int .i64 (atR side p q wd)]) w) := by
  unfold L48 at hw
  have hw1 : IntKind.i64.wrap (p + wd) = p + wd := by rw [IntKind.wrap_i64]; omega
  have hw2 : IntKind.i64.wrap (q - wd) = q - wd := by rw [IntKind.wrap_i64]; omega
  rcases hs with rfl | rfl
  · rw [atL_1, atR_1]
    go_enter Try.func99, Try.ntmps99
    go_wp2
    exact bodyPost_ret (v := .agg #[.int .i64 p, .int .i64 (p + wd)]) (by simp [results, Try.results99, go_sem]) rfl ⟨rfl, (((After.refl _).alloc _).alloc _).alloc _⟩
  · rw [atL_2, atR_2]
    go_enter Try.func99, Try.ntmps99
    go_wp2
    exact bodyPost_ret (v := .agg #[.int .i64 (q - wd), .int .i64 q]) (by simp [results, Try.results99, go_sem]) rfl ⟨rfl, (((After.refl _).alloc _).alloc _).alloc _⟩

set_option maxHeartbeats 4000000 in
theorem want_sticks (side clear a b wd ht y p q : Int) (w : World) (hs : side = 1 ∨ side = 2) (ha : L48 a) (hb : L48 b) (hw : L48 wd) :
    Calls Try.prog 98 #[.agg #[.int .i64 side, .int .i64 clear, .int .i64 a, .int .i64 b, .int .i64 wd, .int .i64 ht, .int .i64 y], .agg #[.int .i64 p, .int .i64 q]] w (Ret (.bool (sticksP side a b wd (p, q))) w) := by
  have hmix := mixed
  obtain ⟨l, hl⟩ : ∃ l, atL side a b wd = l := ⟨_, rfl⟩
  obtain ⟨r, hr⟩ : ∃ r, atR side a b wd = r := ⟨_, rfl⟩
  obtain ⟨ok, hok⟩ : ∃ ok, sticksP side a b wd (p, q) = ok := ⟨_, rfl⟩
  have hok2 : ok = decide (b - a < wd ∧ p ≤ l ∧ r ≤ q) := by rw [← hok, ← hl, ← hr]; rfl
  have hrl : -9007199254740992 ≤ r - l ∧ r - l ≤ 9007199254740992 := by
    rcases hs with rfl | rfl
    · rw [atL_1] at hl; rw [atR_1] at hr; unfold L48 at hw; omega
    · rw [atL_2] at hl; rw [atR_2] at hr; unfold L48 at hw; omega
  have CA := Lib.hid (fun (w' : World) => want_at side clear a b wd ht y a b w' hs (by unfold L48 at ha; omega) (by unfold L48 at hb; omega) hw)
  rw [hl, hr] at CA
  rw [hok]
  have HOK := Lib.hid hok2
  clear hl hr hok hok2 hs
  unfold L48 at ha hb hw
  have hlen : IntKind.i64.wrap (b - a) = b - a := by rw [IntKind.wrap_i64]; omega
  have W2e : ∃ w2, (w.alloc (.cells #[.int .i64 side, .int .i64 clear, .int .i64 a, .int .i64 b, .int .i64 wd, .int .i64 ht, .int .i64 y] 96)).alloc (.cells #[.int .i64 p, .int .i64 q] 34) = w2 := ⟨_, rfl⟩
  obtain ⟨w2, hw2⟩ := W2e
  have A2 : After w w2 := hw2 ▸ ((After.refl w).alloc _).alloc _
  have B2 : Blk w2 w.heap.size 96 #[.int .i64 side, .int .i64 clear, .int .i64 a, .int .i64 b, .int .i64 wd, .int .i64 ht, .int .i64 y] := hw2 ▸ (Blk.new w _ _).alloc _
  have S2 : Blk w2 (w.heap.size + 1) 34 #[.int .i64 p, .int .i64 q] := by
    have := Blk.new (w.alloc (.cells #[.int .i64 side, .int .i64 clear, .int .i64 a, .int .i64 b, .int .i64 wd, .int .i64 ht, .int .i64 y] 96)) 34 #[.int .i64 p, .int .i64 q]
    rw [World.size_alloc, hw2] at this; exact this
  have k0 := B2.cell 0
  have k1 := B2.cell 1
  have k2 := B2.cell 2
  have k3 := B2.cell 3
  have k4 := B2.cell 4
  have k5 := B2.cell 5
  have k6 := B2.cell 6
  simp at k0 k1 k2 k3 k4 k5 k6
  have HB := Lib.hid B2
  have HS := Lib.hid S2
  have HA := Lib.hid A2
  clear B2 S2 A2
  go_enter Try.func98, Try.ntmps98
  go_wp2_with fail
  refine (CA.out _).mono ?_
  rintro e w3 ⟨rfl, hw3⟩
  clear hw2 k0 k1 k2 k3 k4 k5 k6
  have M4 := Blk.new w3 34 #[.int .i64 l, .int .i64 r]
  have HA4 := Lib.hid (show After w2 (w3.alloc (.cells #[.int .i64 l, .int .i64 r] 34)) from hw3.alloc _)
  clear hw3
  go_wp2_with fail
  generalize hw4 : w3.alloc (.cells #[.int .i64 l, .int .i64 r] 34) = w4 at M4 HA4 ⊢
  clear hw4
  have B4 := HB.out.after HA4.out
  have S4 := HS.out.after HA4.out
  have A4 := Lib.hid (HA.out.trans HA4.out)
  have k2 := B4.cell 2
  have k3 := B4.cell 3
  have k4 := B4.cell 4
  have m0 := M4.cell 0
  have m1 := M4.cell 1
  have n0 := S4.cell 0
  have n1 := S4.cell 1
  simp at k2 k3 k4 m0 m1 n0 n1
  have q0 := fun n os => cell_grown (w := w4) B4.lt k2 n os
  have q1 := fun n os => cell_grown (w := w4) B4.lt k3 n os
  have q2 := fun n os => cell_grown (w := w4) B4.lt k4 n os
  have q3 := fun n os => cell_grown (w := w4) M4.lt m0 n os
  have q4 := fun n os => cell_grown (w := w4) M4.lt m1 n os
  have q5 := fun n os => cell_grown (w := w4) S4.lt n0 n os
  have q6 := fun n os => cell_grown (w := w4) S4.lt n1 n os
  clear k2 k3 k4 m0 m1 n0 n1 B4 S4 M4 HB HS HA HA4
  by_cases g1 : b - a < wd
  · have g1' : decide (b - a < wd) = true := decide_eq_true g1
    by_cases g2 : p ≤ l
    · have g2' : decide (p ≤ l) = true := decide_eq_true g2
      go_quiet_grown ((go_at_call 67; exact Calls.grown_after (span_len _ _ _ (by omega) (by omega) (by omega) (by omega))))
      generalize hw5 : grow (w4.drewN _) _ = w5
      have A5 := Lib.hid (show After w4 w5 from hw5 ▸ After.of_grown _ _)
      clear hw5 q0 q1 q2 q3 q4 q5 q6
      go_wp2_with fail
      go_ret
      refine ⟨ret_bool ?_, A4.out.trans A5.out⟩
      rw [HOK.out]; simp [g1, g2]
    · have g2' : decide (p ≤ l) = false := decide_eq_false g2
      go_quiet_grown ((go_at_call 67; exact Calls.grown_after (span_len _ _ _ (by omega) (by omega) (by omega) (by omega))))
      generalize hw5 : grow (w4.drewN _) _ = w5
      have A5 := Lib.hid (show After w4 w5 from hw5 ▸ After.of_grown _ _)
      clear hw5 q0 q1 q2 q3 q4 q5 q6
      go_wp2_with fail
      go_ret
      refine ⟨ret_bool ?_, A4.out.trans A5.out⟩
      rw [HOK.out]; first | (simp [g1, g2]; done) | (simp [g1, g2]; omega)
  · have g1' : decide (b - a < wd) = false := decide_eq_false g1
    go_quiet_grown ((go_at_call 67; exact Calls.grown_after (span_len _ _ _ (by omega) (by omega) (by omega) (by omega))))
    generalize hw5 : grow (w4.drewN _) _ = w5
    have A5 := Lib.hid (show After w4 w5 from hw5 ▸ After.of_grown _ _)
    clear hw5 q0 q1 q2 q3 q4 q5 q6
    go_wp2_with fail
    go_ret
    refine ⟨ret_bool ?_, A4.out.trans A5.out⟩
    rw [HOK.out]; first | (simp [g1]; done) | (simp [g1]; omega)
end Go.Proofs.Ytefbeekjoafijaa
