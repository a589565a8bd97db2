/- The mirror: floats of the other side, shown by a mirror, leave free what the mirror shows. -/
import Derived.Test.YtefbeekjoafijaaGuard11
namespace Go.Proofs.Ytefbeekjoafijaa
open Go.RowKit Go.Sort
set_option linter.unusedVariables false
set_option linter.unusedSimpArgs false

def mirF (f : Flt) : Flt := ⟨3 - f.side, -f.r, f.t, -f.l, f.b⟩

theorem counts_mir {f : Flt} (h : sideOk f = true) : counts (mirF f) = counts f := by
  unfold sideOk at h
  simp only [decide_eq_true_eq] at h
  have e : (counts (mirF f) = true) ↔ (counts f = true) := by
    unfold counts mirF
    simp only [decide_eq_true_eq]
    omega
  cases h1 : counts f <;> cases h2 : counts (mirF f) <;> simp_all

theorem stepL_mir {f : Flt} (h : sideOk f = true) (y A : Int) : stepL y (-A) (mirF f) = -(stepR y A f) := by
  have hc := counts_mir h
  unfold sideOk at h
  simp only [decide_eq_true_eq] at h
  unfold stepL stepR
  rw [hc]
  by_cases c : counts f = true ∧ f.t ≤ y ∧ y < f.b ∧ f.side = 2 ∧ f.l < A
  · rw [if_pos c, if_pos ⟨c.1, c.2.1, c.2.2.1, by have := c.2.2.2.1; show 3 - f.side = 1; omega, by have := c.2.2.2.2; show -A < -f.l; omega⟩]
    rfl
  · rw [if_neg c, if_neg (fun d => c ⟨d.1, d.2.1, d.2.2.1, by have : 3 - f.side = 1 := d.2.2.2.1; omega, by have : -A < -f.l := d.2.2.2.2; omega⟩)]
theorem stepR_mir {f : Flt} (h : sideOk f = true) (y A : Int) : stepR y (-A) (mirF f) = -(stepL y A f) := by
  have hc := counts_mir h
  unfold sideOk at h
  simp only [decide_eq_true_eq] at h
  unfold stepL stepR
  rw [hc]
  by_cases c : counts f = true ∧ f.t ≤ y ∧ y < f.b ∧ f.side = 1 ∧ A < f.r
  · rw [if_pos c, if_pos ⟨c.1, c.2.1, c.2.2.1, by have := c.2.2.2.1; show 3 - f.side = 2; omega, by have := c.2.2.2.2; show -f.r < -A; omega⟩]
    rfl
  · rw [if_neg c, if_neg (fun d => c ⟨d.1, d.2.1, d.2.2.1, by have : 3 - f.side = 2 := d.2.2.2.1; omega, by have : -f.r < -A := d.2.2.2.2; omega⟩)]

theorem lft_mir (y : Int) : ∀ (l : List Flt) (A : Int), l.all sideOk = true → (l.map mirF).foldl (stepL y) (-A) = -(l.foldl (stepR y) A)
  | [], A, _ => rfl
  | f :: l, A, h => by
    rw [List.all_cons, Bool.and_eq_true] at h
    rw [List.map_cons, List.foldl_cons, List.foldl_cons, stepL_mir h.1]
    exact lft_mir y l _ h.2
theorem rgt_mir (y : Int) : ∀ (l : List Flt) (A : Int), l.all sideOk = true → (l.map mirF).foldl (stepR y) (-A) = -(l.foldl (stepL y) A)
  | [], A, _ => rfl
  | f :: l, A, h => by
    rw [List.all_cons, Bool.and_eq_true] at h
    rw [List.map_cons, List.foldl_cons, List.foldl_cons, stepR_mir h.1]
    exact rgt_mir y l _ h.2

theorem gOf_mir {fs : List Flt} (h : fs.all sideOk = true) (y : Int) : gOf (fs.map mirF) y = (-(gOf fs y).2, -(gOf fs y).1) := by
  refine Prod.ext ?_ ?_
  · exact lft_mir y fs Far h
  · have := rgt_mir y fs (-Far) h
    rw [Int.neg_neg] at this
    exact this

theorem band_mir {fs : List Flt} (h : fs.all sideOk = true) {z : Int} (ht : Int) (hz : -Far ≤ z) : bandAt (fs.map mirF) z ht = (-(bandAt fs z ht).2, -(bandAt fs z ht).1) := by
  have b := bandAt_spec fs ht hz
  have b' := bandAt_spec (fs.map mirF) ht hz
  have c : IsBand (gOf (fs.map mirF)) z (z + hi1 ht) (-(bandAt fs z ht).2) (-(bandAt fs z ht).1) := by
    refine ⟨?_, ?_, fun y h1 h2 => ?_, ?_, ?_⟩
    · have := b.hi; omega
    · have := b.lo; omega
    · rw [gOf_mir h]
      have := b.all y h1 h2
      show -(gOf fs y).2 ≤ _ ∧ _ ≤ -(gOf fs y).1
      omega
    · rcases b.getR with e | ⟨y, h1, h2, e⟩
      · left; rw [e]
      · right; exact ⟨y, h1, h2, by rw [gOf_mir h]; show -(gOf fs y).2 = _; rw [e]⟩
    · rcases b.getL with e | ⟨y, h1, h2, e⟩
      · left; rw [e, Int.neg_neg]
      · right; exact ⟨y, h1, h2, by rw [gOf_mir h]; show -(gOf fs y).1 = _; rw [e]⟩
  have := b'.unique c
  exact Prod.ext this.1 this.2

theorem fitsP_mir {side a b wd : Int} (hs : side = 1 ∨ side = 2) (x : Int × Int) : fitsP (3 - side) (-b) (-a) wd (-x.2, -x.1) = fitsP side a b wd x := by
  have e : fitsP (3 - side) (-b) (-a) wd (-x.2, -x.1) = true ↔ fitsP side a b wd x = true := by
    rcases hs with rfl | rfl
    · rw [show (3 : Int) - 1 = 2 from rfl, fitsP_iff1, fitsP_iff2]
      show wd ≤ min (-a) (-x.1) - max (-b) (-x.2) ∨ (-a - -b < wd ∧ -x.2 ≤ -a - wd ∧ -a ≤ -x.1) ↔ _
      omega
    · rw [show (3 : Int) - 2 = 1 from rfl, fitsP_iff1, fitsP_iff2]
      show wd ≤ min (-a) (-x.1) - max (-b) (-x.2) ∨ (-a - -b < wd ∧ -x.2 ≤ -b ∧ -b + wd ≤ -x.1) ↔ _
      omega
  cases h1 : fitsP side a b wd x <;> cases h2 : fitsP (3 - side) (-b) (-a) wd (-x.2, -x.1) <;> simp_all

theorem leftP_mir {side a b wd : Int} (hs : side = 1 ∨ side = 2) (x : Int × Int) : leftP (3 - side) (-b) (-a) wd (-x.2, -x.1) = -(leftP side a b wd x + wd) := by
  unfold leftP
  rcases hs with rfl | rfl
  · rw [show (3 : Int) - 1 = 2 from rfl, atL_1, atL_2]
    show min (-a) (-x.1) - wd = -(max a x.1 + wd)
    omega
  · rw [show (3 : Int) - 2 = 1 from rfl, atL_1, atL_2]
    show max (-b) (-x.2) = -(min b x.2 - wd + wd)
    omega

theorem lastOf_mir (fs : List Flt) : lastOf (fs.map mirF) = lastOf fs := by
  unfold lastOf
  rw [List.foldl_map]
  rfl
/-- what is cleared, as the mirror shows it -/
def mirC (c : Int) : Int := if c = 1 ∨ c = 2 then 3 - c else c
theorem clearsB_mir {f : Flt} (h : sideOk f = true) (c : Int) : clearsB (mirC c) (mirF f).side = clearsB c f.side := by
  unfold sideOk at h
  simp only [decide_eq_true_eq] at h
  have e : clearsB (mirC c) (mirF f).side = true ↔ clearsB c f.side = true := by
    unfold clearsB mirC mirF
    simp only [decide_eq_true_eq]
    split <;> omega
  cases h1 : clearsB c f.side <;> cases h2 : clearsB (mirC c) (mirF f).side <;> simp_all
theorem botOf_mir (c : Int) (fs : List Flt) : fs.all sideOk = true → botOf (mirC c) (fs.map mirF) = botOf c fs := by
  induction fs using snoc_ind0 with
  | nil => intro _; rfl
  | snoc l f ih =>
    intro h
    rw [List.all_append, Bool.and_eq_true] at h
    have hf : sideOk f = true := by simpa using h.2
    rw [List.map_append, List.map_cons, List.map_nil, botOf_snoc, botOf_snoc, ih h.1, clearsB_mir hf]
    rfl
theorem startP_mir {fs : List Flt} (h : fs.all sideOk = true) (c y : Int) : startP (fs.map mirF) (mirC c) y = startP fs c y := by
  have hb : bottomOf (mirC c) (fs.map mirF) = bottomOf c fs := by
    unfold bottomOf
    rw [botOf_mir c fs h]
    have : (mirC c ≤ 0 ∨ 3 < mirC c) ↔ (c ≤ 0 ∨ 3 < c) := by unfold mirC; split <;> omega
    by_cases hc : c ≤ 0 ∨ 3 < c
    · rw [if_pos hc, if_pos (this.2 hc)]
    · rw [if_neg hc, if_neg (fun h => hc (this.1 h))]
  unfold startP clearOf
  rw [lastOf_mir, hb]

theorem find_mir {fs : List Flt} (h : fs.all sideOk = true) {side a b wd ht s : Int} (hs : side = 1 ∨ side = 2) (ha : L48 a) (hb : L48 b) (hw : L48 wd) (hy : -Far ≤ s) :
    firstOf (fs.map mirF) ht (fitsP (3 - side) (-b) (-a) wd) s = firstOf fs ht (fitsP side a b wd) s := by
  have hs' : 3 - side = 1 ∨ 3 - side = 2 := by omega
  have ha' : L48 (-b) := by unfold L48 at *; omega
  have hb' : L48 (-a) := by unfold L48 at *; omega
  have key : ∀ z, -Far ≤ z → fitsP (3 - side) (-b) (-a) wd (bandAt (fs.map mirF) z ht) = fitsP side a b wd (bandAt fs z ht) := fun z hz => by
    rw [band_mir h ht hz]; exact fitsP_mir hs _
  have f1 := fitsP_fair fs ht hs ha hb hw
  have f2 := fitsP_fair (fs.map mirF) ht hs' ha' hb' hw
  exact Int.le_antisymm (firstOf_le f2 f1 hy (Int.le_refl _) (fun z hz hq => by rw [key z hz]; exact hq)) (firstOf_le f1 f2 hy (Int.le_refl _) (fun z hz hq => by rw [← key z hz]; exact hq))

theorem near_mir {fs : List Flt} {most : Int} (h : nearB fs most = true) : nearB (fs.map mirF) most = true := by
  unfold nearB at h ⊢
  simp only [Bool.and_eq_true, decide_eq_true_eq, List.length_map] at h ⊢
  refine ⟨?_, h.2⟩
  rw [List.all_eq_true] at h ⊢
  intro g hg
  obtain ⟨f, hf, rfl⟩ := List.mem_map.1 hg
  have := h.1 f hf
  unfold nearF near4 at this ⊢
  simp only [List.all_cons, List.all_nil, Bool.and_eq_true, in49, sideOk, mirF, decide_eq_true_eq, Bool.and_true, and_true] at this ⊢
  obtain ⟨⟨⟨a1, a2⟩, ⟨b1, b2⟩, ⟨c1, c2⟩, d1, d2⟩, hs⟩ := this
  refine ⟨⟨⟨by omega, by omega⟩, ⟨by omega, by omega⟩, ⟨by omega, by omega⟩, by omega, by omega⟩, ?_⟩
  rcases hs with hs | hs
  · exact decide_eq_true (.inr (by omega))
  · exact decide_eq_true (.inl (by omega))

/-! ### the turned floats, as they are appended -/
theorem info_rf : (Try.prog.info? 72).map (fun i => (i.zero, i.size, i.bytes)) = some (some (.agg #[.int .i64 0, .int .i64 0, .int .i64 0, .int .i64 0, .int .i64 0]), 5, 40) := by kernel_rfl

def TurnRel (fs : List Flt) (w4 : World) (tv vk : Value) (wr : World) : Prop :=
  ∃ k : Nat, vk = .int .i64 (k : Int) ∧ k ≤ fs.length ∧ wr.ownsRow w4.heap.size 72 5 tv k (flRow ((fs.take k).map mirF)) ∧ After w4 wr

theorem flsAt_of_row {w : World} {base n : Nat} {v : Value} {fs : List Flt} (h : w.ownsRow base 72 5 v n (flRow fs)) (hn : n = fs.length) : FlsAt w v fs := by
  subst hn
  rcases h.2 with ⟨hv, h0⟩ | ⟨g, cap, cur, hv, _, hg, hc, hm, _⟩
  · have : fs = [] := List.length_eq_zero_iff.1 h0
    subst this
    subst hv
    exact .inl ⟨none, 0, rfl, rfl⟩
  · subst hv
    refine .inr ⟨g, 0, cap, rfl, (Array.getElem?_eq_some_iff.1 hg).1, ⟨hc, hm⟩, fun i f hf => ?_⟩
    have hi : i < fs.length := (List.getElem?_eq_some_iff.1 hf).1
    have key := fun j v hj => (h.cellAt (i * 5 + j) (by have : j < 5 := by have := (List.getElem?_eq_some_iff.1 (flRow_at hf j v hj)).1; have h2 := (List.getElem?_eq_some_iff.1 hj).1; simpa [flCells] using h2
                                                        omega)).trans (flRow_at hf j v hj)
    rw [Nat.zero_add]
    exact ⟨key 0 _ rfl, key 1 _ rfl, key 2 _ rfl, key 3 _ rfl, key 4 _ rfl⟩
end Go.Proofs.Ytefbeekjoafijaa
