/- What the laws of chapter 12 share: the parts of a want that may be; placing is monotone. -/
import Derived.Test.YtefbeekjoafijaaSpeaks12
namespace Go.Proofs.Ytefbeekjoafijaa
open Go.RowKit Go.Sort

theorem rightA_parts {a b c d e : Int} (h : rightA a b c d e = true) : L48 a ∧ L48 b ∧ L48 c ∧ L48 d ∧ L48 e ∧ 0 ≤ c := by
  unfold rightA at h
  simp [in48] at h
  unfold L48
  omega

theorem far_of {x : Int} (h : L48 x) : -Far ≤ x ∧ x ≤ Far := by unfold L48 at h; unfold Far; omega

theorem find_range {fs : List Flt} (hall : fs.all smallF = true) (ht : Int) (q : Int × Int → Bool) {y : Int} (hy : L48 y) : -Far ≤ firstOf fs ht q y ∧ firstOf fs ht q y ≤ 2251799813685248 := by
  have := firstOf_ok hall ht q y
  unfold L48 at hy
  unfold Far at this ⊢
  omega

/-- the place that a box gets: from y on, the first one -/
theorem find_at (fs : List Flt) {a b wd ht y : Int} (ha : L48 a) (hb : L48 b) (hw : L48 wd) (hy : L48 y) :
    y ≤ firstOf fs ht (fitsQ a b wd) y ∧ fitsQ a b wd (bandAt fs (firstOf fs ht (fitsQ a b wd) y) ht) = true ∧ ∀ z, y ≤ z → z < firstOf fs ht (fitsQ a b wd) y → fitsQ a b wd (bandAt fs z ht) = false :=
  firstOf_spec (fits_fair fs ht ha hb hw) (far_of hy).1

/-! ### the contracts in a law's own letters -/
theorem find_c {w : World} {base S L g cap : Nat} {fv : Value} {fs : List Flt} (h : SpaceAt w base S L g cap fv fs) (hall : fs.all smallF = true) {a b wd ht y z x : Int} (ha : L48 a) (hb : L48 b) (hw : L48 wd) (hh : L48 ht) (hf : L48 y)
    (hz : firstOf fs ht (fitsQ a b wd) y = z) (hx : max a (bandAt fs z ht).1 = x) :
    Calls Try.prog 41 #[.pointer (some ⟨S, 0, none⟩), .agg #[.int .i64 a, .int .i64 b, .int .i64 wd, .int .i64 ht, .int .i64 y]] w (Ret (.agg #[.int .i64 x, .int .i64 z, .int .i64 (x + wd), .int .i64 (z + ht)]) w) := by
  subst hz
  subst hx
  exact avoid_find h hall ha hb hw hh hf

theorem at_c {w : World} {v : Value} {fs : List Flt} (h : FlsAt w v fs) (hall : fs.all smallF = true) {a b wd ht fr : Int} (ha : L48 a) (hb : L48 b) (hw : L48 wd) (hh : L48 ht) (y : Int) (hy : -Far ≤ y ∧ y ≤ Far) {ok : Bool} {r : Int}
    (hok : fitsQ a b wd (bandAt fs y ht) = ok) (hr : (if ok = true then max a (bandAt fs y ht).1 else 0) = r) :
    Calls Try.prog 43 #[v, .agg #[.int .i64 a, .int .i64 b, .int .i64 wd, .int .i64 ht, .int .i64 fr], .int .i64 y] w (Ret (.tuple #[.int .i64 r, .bool ok]) w) := by
  subst hok
  subst hr
  exact ref12_at h hall ha hb hw hh y hy

theorem find_top_range {fs : List Flt} (hall : fs.all smallF = true) {a ht z x : Int} (hz : -Far ≤ z) (ha : L48 a) (hx : max a (bandAt fs z ht).1 = x) : -Far ≤ x ∧ x ≤ Far := by
  have := band_nr hall ht hz
  unfold L48 at ha
  unfold Far at *
  omega
end Go.Proofs.Ytefbeekjoafijaa
