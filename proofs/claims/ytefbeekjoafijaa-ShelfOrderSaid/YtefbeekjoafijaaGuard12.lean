/- What the laws of chapter 12 share: the parts of a want that may be; placing is monotone. -/
import Derived.Test.YtefbeekjoafijaaSpeaks12
import Derived.Test.YtefbeekjoafijaaFresh
namespace Go.Proofs.Ytefbeekjoafijaa
open Go.RowKit Go.Sort
set_option linter.unusedVariables false
set_option linter.unusedSimpArgs false

theorem far_of {x : Int} (h : L48 x) : -Far ≤ x ∧ x ≤ Far := by unfold L48 at h; unfold Far; omega

theorem al_rect (o : Oper) (h : o.op = .alloc 59) (r : Operand → Value) (w : World) : (execOp r o).run Try.prog w = .ok (.value (ptr w.heap.size)) (w.alloc (.cells #[.int .i64 0, .int .i64 0, .int .i64 0, .int .i64 0] 59)) := by
  unfold execOp
  rw [h]
  kernel_rfl

theorem hi1_mono {a b : Int} (h : a ≤ b) : hi1 a ≤ hi1 b := by unfold hi1; omega

/-- a taller box never stands higher -/
theorem find_tall (fs : List Flt) {a b wd ht ht' y : Int} (ha : L48 a) (hb : L48 b) (hw : L48 wd) (hy : L48 y) (h : ht ≤ ht') : firstOf fs ht (fitsQ a b wd) y ≤ firstOf fs ht' (fitsQ a b wd) y := by
  refine firstOf_le (fits_fair fs ht ha hb hw) (fits_fair fs ht' ha hb hw) (far_of hy).1 (Int.le_refl _) (fun z hz hq => ?_)
  have := band_more (hi1_mono h) (bandAt_spec fs ht hz) (bandAt_spec fs ht' hz)
  exact (fits_fair fs ht ha hb hw).mono _ _ this.1 this.2 hq

/-- what may stand lower only never stands higher -/
theorem find_low (fs : List Flt) {a b wd ht y y' : Int} (ha : L48 a) (hb : L48 b) (hw : L48 wd) (hy : L48 y) (h : y ≤ y') : firstOf fs ht (fitsQ a b wd) y ≤ firstOf fs ht (fitsQ a b wd) y' :=
  firstOf_le (fits_fair fs ht ha hb hw) (fits_fair fs ht ha hb hw) (far_of hy).1 h (fun _ _ hq => hq)

/-- a narrower room, into which the box fits, and of the same left end -/
theorem find_room (fs : List Flt) {a b b' wd ht y : Int} (ha : L48 a) (hb : L48 b) (hb' : L48 b') (hw : L48 wd) (hy : L48 y) (h : b' ≤ b) (hf : wd ≤ b' - a) : firstOf fs ht (fitsQ a b wd) y ≤ firstOf fs ht (fitsQ a b' wd) y := by
  refine firstOf_le (fits_fair fs ht ha hb hw) (fits_fair fs ht ha hb' hw) (far_of hy).1 (Int.le_refl _) (fun z hz hq => ?_)
  unfold fitsQ at hq ⊢
  simp only [Bool.or_eq_true, decide_eq_true_eq] at hq ⊢
  omega

/-- a narrower box never stands lower -/
theorem find_thin (fs : List Flt) {a b wd wd' ht y : Int} (ha : L48 a) (hb : L48 b) (hw : L48 wd) (hw' : L48 wd') (hy : L48 y) (h : wd' ≤ wd) : firstOf fs ht (fitsQ a b wd') y ≤ firstOf fs ht (fitsQ a b wd) y := by
  refine firstOf_le (fits_fair fs ht ha hb hw') (fits_fair fs ht ha hb hw) (far_of hy).1 (Int.le_refl _) (fun z hz hq => ?_)
  unfold fitsQ at hq ⊢
  simp only [Bool.or_eq_true, decide_eq_true_eq] at hq ⊢
  omega

/-- without floats: where it wants, at the left -/
theorem find_alone {a b wd ht y : Int} (ha : L48 a) (hb : L48 b) (hw : L48 wd) (hy : L48 y) : firstOf [] ht (fitsQ a b wd) y = y ∧ max a (bandAt [] y ht).1 = a := by
  have e : bandAt [] y ht = (-Far, Far) := by
    have h1 := bandAt_spec [] ht (far_of hy).1
    have h2 : IsBand (gOf []) y (y + hi1 ht) (-Far) Far := ⟨Int.le_refl _, Int.le_refl _, fun _ _ _ => ⟨Int.le_refl _, Int.le_refl _⟩, .inl rfl, .inl rfl⟩
    have := h1.unique h2
    exact Prod.ext this.1 this.2
  refine ⟨firstOf_unique (fits_fair [] ht ha hb hw) (far_of hy).1 (Int.le_refl _) ?_ (fun z h1 h2 => by omega), ?_⟩
  · rw [e]; exact (fits_fair [] ht ha hb hw).free
  · rw [e]
    unfold L48 at ha
    unfold Far
    show max a (-4503599627370496) = a
    omega

theorem rightA_parts {a b c d e : Int} (h : rightA a b c d e = true) : L48 a ∧ L48 b ∧ L48 c ∧ L48 d ∧ L48 e ∧ 0 ≤ c := by
  unfold rightA at h
  simp [in48] at h
  unfold L48
  omega

theorem find_range {fs : List Flt} (hall : fs.all smallF = true) (ht : Int) (q : Int × Int → Bool) {y : Int} (hy : L48 y) : -Far ≤ firstOf fs ht q y ∧ firstOf fs ht q y ≤ 2251799813685248 := by
  have := firstOf_ok hall ht q y
  unfold L48 at hy
  unfold Far at this ⊢
  omega

/-- the place that a box gets: from y on, the first one -/
theorem find_at (fs : List Flt) {a b wd ht y : Int} (ha : L48 a) (hb : L48 b) (hw : L48 wd) (hy : L48 y) :
    y ≤ firstOf fs ht (fitsQ a b wd) y ∧ fitsQ a b wd (bandAt fs (firstOf fs ht (fitsQ a b wd) y) ht) = true ∧ ∀ z, y ≤ z → z < firstOf fs ht (fitsQ a b wd) y → fitsQ a b wd (bandAt fs z ht) = false :=
  firstOf_spec (fits_fair fs ht ha hb hw) (far_of hy).1

/-! ### the contracts in a law's own letters -/
theorem find_c {w : World} {base S L g cap : Nat} {fv : Value} {fs : List Flt} (h : SpaceAt w base S L g cap fv fs) (hall : fs.all smallF = true) {a b wd ht y z x : Int} (ha : L48 a) (hb : L48 b) (hw : L48 wd) (hh : L48 ht) (hf : L48 y)
    (hz : firstOf fs ht (fitsQ a b wd) y = z) (hx : max a (bandAt fs z ht).1 = x) :
    Calls Try.prog 41 #[.pointer (some ⟨S, 0, none⟩), .agg #[.int .i64 a, .int .i64 b, .int .i64 wd, .int .i64 ht, .int .i64 y]] w (Ret (.agg #[.int .i64 x, .int .i64 z, .int .i64 (x + wd), .int .i64 (z + ht)]) w) := by
  subst hz
  subst hx
  exact avoid_find h hall ha hb hw hh hf

theorem at_c {w : World} {v : Value} {fs : List Flt} (h : FlsAt w v fs) (hall : fs.all smallF = true) {a b wd ht fr : Int} (ha : L48 a) (hb : L48 b) (hw : L48 wd) (hh : L48 ht) (y : Int) (hy : -Far ≤ y ∧ y ≤ Far) {ok : Bool} {r : Int}
    (hok : fitsQ a b wd (bandAt fs y ht) = ok) (hr : (if ok = true then max a (bandAt fs y ht).1 else 0) = r) :
    Calls Try.prog 43 #[v, .agg #[.int .i64 a, .int .i64 b, .int .i64 wd, .int .i64 ht, .int .i64 fr], .int .i64 y] w (Ret (.tuple #[.int .i64 r, .bool ok]) w) := by
  subst hok
  subst hr
  exact ref12_at h hall ha hb hw hh y hy

theorem find_top_range {fs : List Flt} (hall : fs.all smallF = true) {a ht z x : Int} (hz : -Far ≤ z) (ha : L48 a) (hx : max a (bandAt fs z ht).1 = x) : -Far ≤ x ∧ x ≤ Far := by
  have := band_nr hall ht hz
  unfold L48 at ha
  unfold Far at *
  omega
end Go.Proofs.Ytefbeekjoafijaa
