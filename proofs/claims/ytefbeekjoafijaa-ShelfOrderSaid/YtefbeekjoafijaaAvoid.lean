/- avoid: the plain side of where a box may stand. -/
import Derived.Test.YtefbeekjoafijaaWant
namespace Go.Proofs.Ytefbeekjoafijaa
open Go.RowKit Go.Sort

/-! ### plain -/
theorem askedY_last (so : Int → Bool) : ∀ (ts : List Int) (y : Int), (askedY so ts y).getLast? = some (firstY so ts y)
  | [], y => rfl
  | t :: ts, y => by
    unfold askedY firstY
    split
    · rfl
    · have ih := askedY_last so ts t
      cases hq : askedY so ts t with
      | nil => rw [hq] at ih; cases ih
      | cons a q =>
        rw [hq] at ih
        rw [List.getLast?_cons_cons]
        exact ih

theorem cutS_mem (y : Int) : ∀ (q : List Sh), ∀ t ∈ cutS y q, t.top = y ∨ t ∈ q
  | [], t, ht => by simp [cutS] at ht
  | [c], t, ht => by
    unfold cutS at ht
    split at ht
    · exact .inr ht
    · simp at ht; rcases ht with rfl | rfl
      · simp
      · simp
  | c :: d :: q, t, ht => by
    unfold cutS at ht
    split at ht
    · exact .inr ht
    · split at ht
      · simp at ht; rcases ht with rfl | rfl | rfl | ht <;> simp [*]
      · rcases List.mem_cons.1 ht with rfl | ht
        · simp
        · rcases cutS_mem y (d :: q) t ht with h | h
          · exact .inl h
          · exact .inr (List.mem_cons_of_mem _ h)
theorem compactTo_mem : ∀ (r : List Sh) (a : Sh), ∀ t ∈ compactTo a r, t ∈ a :: r := by
  intro r
  induction r with
  | nil => intro a t ht; exact ht
  | cons b r ih =>
    intro a t ht
    unfold compactTo at ht
    split at ht
    · rcases List.mem_cons.1 (ih a t ht) with rfl | h
      · simp
      · simp [h]
    · rcases List.mem_cons.1 ht with rfl | ht
      · simp
      · exact List.mem_cons_of_mem _ (ih b t ht)
theorem addS_mem (xs : List Sh) (f : Flt) : ∀ s ∈ addS xs f, s.top = f.t ∨ s.top = f.b ∨ ∃ t ∈ xs, t.top = s.top := by
  intro s hs
  unfold addS at hs
  split at hs
  · have h1 : s ∈ (cutS f.b (cutS f.t xs)).map (putS f) := by
      cases hm : (cutS f.b (cutS f.t xs)).map (putS f) with
      | nil => rw [hm] at hs; exact hs
      | cons a r => rw [hm] at hs; exact compactTo_mem r a s hs
    obtain ⟨t, ht, rfl⟩ := List.mem_map.1 h1
    rw [putS_top]
    rcases cutS_mem _ _ t ht with h | h
    · exact .inr (.inl h)
    · rcases cutS_mem _ _ t h with h | h
      · exact .inl h
      · exact .inr (.inr ⟨t, h, rfl⟩)
  · exact .inr (.inr ⟨s, hs, rfl⟩)
theorem shelvesOf_mem (fs : List Flt) : ∀ s ∈ shelvesOf fs, s.top = -Far ∨ ∃ f ∈ fs, s.top = f.t ∨ s.top = f.b := by
  induction fs using snoc_ind0 with
  | nil => intro s hs; simp [shelvesOf, newS] at hs; left; rw [hs]
  | snoc l f ih =>
    intro s hs
    rw [shelvesOf_snoc] at hs
    rcases addS_mem _ _ s hs with h | h | ⟨t, ht, h⟩
    · exact .inr ⟨f, by simp, .inl h⟩
    · exact .inr ⟨f, by simp, .inr h⟩
    · rcases ih t ht with h' | ⟨g, hg, h'⟩
      · left; omega
      · exact .inr ⟨g, by simp [hg], by omega⟩
theorem tops_near {fs : List Flt} (h : fs.all smallF = true) : ∀ s ∈ shelvesOf fs, -Far ≤ s.top ∧ s.top ≤ 2251799813685248 := by
  intro s hs
  rcases shelvesOf_mem fs s hs with h' | ⟨f, hf, h'⟩
  · rw [h']; unfold Far; omega
  · have := List.all_eq_true.1 h f hf
    unfold smallF small4 at this
    simp [in1] at this
    unfold Far
    rcases h' with h' | h' <;> omega
theorem band_nr {fs : List Flt} (h : fs.all smallF = true) {y : Int} (ht : Int) (hy : -Far ≤ y) : -Far ≤ (bandAt fs y ht).1 ∧ (bandAt fs y ht).1 ≤ Far ∧ -Far ≤ (bandAt fs y ht).2 ∧ (bandAt fs y ht).2 ≤ Far := by
  have b := bandAt_spec fs ht hy
  have key : ∀ f ∈ fs, -Far ≤ f.l ∧ f.r ≤ Far := by
    intro f hf
    have := List.all_eq_true.1 h f hf
    unfold smallF small4 at this
    simp [in1] at this
    unfold Far
    omega
  refine ⟨b.lo, ?_, ?_, b.hi⟩
  · rcases b.getL with e | ⟨z, _, _, e⟩
    · rw [e]; unfold Far; omega
    · rcases lft_get fs z with e' | ⟨f, hf, _, _, _, _, e'⟩
      · rw [← e, e']; unfold Far; omega
      · rw [← e, ← e']; exact (key f hf).2
  · rcases b.getR with e | ⟨z, _, _, e⟩
    · rw [e]; unfold Far; omega
    · rcases rgt_get fs z with e' | ⟨f, hf, _, _, _, _, e'⟩
      · rw [← e, e']; unfold Far; omega
      · rw [← e, ← e']; exact (key f hf).1

/-- may a box stand where so much is free? -/
def fitsQ (a b wd : Int) (x : Int × Int) : Bool := decide (wd ≤ min b x.2 - max a x.1) || decide (b - a < wd ∧ x.1 ≤ a ∧ a + wd ≤ x.2)

def L48 (x : Int) : Prop := -281474976710656 ≤ x ∧ x ≤ 281474976710656

theorem fits_fair (fs : List Flt) (ht : Int) {a b wd : Int} (ha : L48 a) (hb : L48 b) (hw : L48 wd) : Fair fs ht (fitsQ a b wd) := by
  unfold L48 at ha hb hw
  constructor
  · intro p p' h1 h2 h
    unfold fitsQ at h ⊢
    simp only [Bool.or_eq_true, decide_eq_true_eq] at h ⊢
    omega
  · unfold fitsQ Far
    simp only [Bool.or_eq_true, decide_eq_true_eq]
    omega

theorem SpaceAt.apart {w : World} {base S L g cap : Nat} {fv : Value} {fs : List Flt} (h : SpaceAt w base S L g cap fv fs) {K : Nat} {t : TypeId} {cs : Array Value} (hk : Blk w K t cs)
    (h1 : t ≠ 111) (h2 : t ≠ 105) (h3 : t ≠ 32) (h4 : t ≠ 84) : ¬ owns S L g fv K := by
  rintro (e | e | e | e)
  · exact hk.ne_ h.obj h1 e
  · exact hk.ne_ h.list.obj h2 e
  · obtain ⟨cur, _, hg, _⟩ := ownsRow_get h.list.row
    exact hk.ne_ (show Blk w g 32 cur from hg) h3 e
  · rcases h.row.2 with ⟨hv, _⟩ | ⟨b', c, cur, hv, _, hg, _⟩
    · subst hv; cases e
    · subst hv
      have e' : b' = K := by injection e
      exact hk.ne_ (show Blk w b' 84 cur from hg) h4 e'.symm
end Go.Proofs.Ytefbeekjoafijaa
