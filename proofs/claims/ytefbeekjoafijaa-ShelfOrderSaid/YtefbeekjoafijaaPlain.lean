/- The plain law of the shelves: what floats leave free, as shelves and as the document's answer has it; the first place that is so. No program in sight. -/
namespace Go.Proofs.Ytefbeekjoafijaa


def Far : Int := 4503599627370496

structure Sh where
  top : Int
  left : Int
  right : Int
  deriving DecidableEq

structure Flt where
  side : Int
  l : Int
  t : Int
  r : Int
  b : Int
  deriving DecidableEq

def counts (f : Flt) : Bool := decide (f.l < f.r ∧ f.t < f.b ∧ (f.side = 1 ∨ f.side = 2))

/-- the bounds of a row among floats -/
def stepL (y : Int) (a : Int) (f : Flt) : Int := if counts f = true ∧ f.t ≤ y ∧ y < f.b ∧ f.side = 1 ∧ a < f.r then f.r else a
def stepR (y : Int) (a : Int) (f : Flt) : Int := if counts f = true ∧ f.t ≤ y ∧ y < f.b ∧ f.side = 2 ∧ f.l < a then f.l else a
def lftOf (l : List Flt) (y : Int) : Int := l.foldl (stepL y) (-Far)
def rgtOf (l : List Flt) (y : Int) : Int := l.foldl (stepR y) Far

/-- what shelves say: from `s.top` on -/
def Rep (g : Int → Int × Int) : List Sh → Prop
  | [] => False
  | [s] => ∀ y, s.top ≤ y → g y = (s.left, s.right)
  | s :: s' :: r => s.top < s'.top ∧ (∀ y, s.top ≤ y → y < s'.top → g y = (s.left, s.right)) ∧ Rep g (s' :: r)

/-- neighbours differ -/
def Apart : List Sh → Prop
  | [] => True
  | [_] => True
  | s :: s' :: r => ¬ (s.left = s'.left ∧ s.right = s'.right) ∧ Apart (s' :: r)

def cutS (y : Int) : List Sh → List Sh
  | [] => []
  | [s] => if y ≤ s.top then [s] else [s, { s with top := y }]
  | s :: s' :: r => if y ≤ s.top then s :: s' :: r else if y < s'.top then s :: { s with top := y } :: s' :: r else s :: cutS y (s' :: r)

/-- slices.CompactFunc: keep the first of each run -/
def compactTo (s : Sh) : List Sh → List Sh
  | [] => [s]
  | x :: r => if s.left = x.left ∧ s.right = x.right then compactTo s r else s :: compactTo x r
def compactS : List Sh → List Sh
  | [] => []
  | s :: r => compactTo s r

def putS (f : Flt) (s : Sh) : Sh :=
  if f.t ≤ s.top ∧ s.top < f.b then
    (if f.side = 1 then { s with left := max s.left f.r } else { s with right := min s.right f.l })
  else s

def addS (xs : List Sh) (f : Flt) : List Sh :=
  if counts f then compactS ((cutS f.b (cutS f.t xs)).map (putS f)) else xs

def newS : List Sh := [⟨-Far, -Far, Far⟩]
def shelvesOf (l : List Flt) : List Sh := l.foldl addS newS

def gOf (l : List Flt) (y : Int) : Int × Int := (lftOf l y, rgtOf l y)

theorem rep_head_le {g : Int → Int × Int} : ∀ {s : Sh} {r : List Sh}, Rep g (s :: r) → ∀ x ∈ r, s.top < x.top
  | s, [], _, x, hx => by simp at hx
  | s, s' :: r, h, x, hx => by
    obtain ⟨h1, _, h3⟩ := h
    rcases List.mem_cons.1 hx with rfl | hx
    · exact h1
    · exact Int.lt_trans h1 (rep_head_le h3 x hx)

theorem cut_head (y : Int) (s : Sh) (r : List Sh) : ∃ q, cutS y (s :: r) = s :: q := by
  cases r with
  | nil => unfold cutS; split <;> exact ⟨_, rfl⟩
  | cons s2 r =>
    unfold cutS
    split
    · exact ⟨_, rfl⟩
    · split <;> exact ⟨_, rfl⟩

theorem rep_cut {g : Int → Int × Int} (y : Int) : ∀ {xs : List Sh}, Rep g xs → Rep g (cutS y xs)
  | [s], h => by
    unfold cutS
    split
    · exact h
    · rename_i hn
      refine ⟨by simp; omega, fun z h1 _ => h z h1, fun z hz => h z (by simp at hz; omega)⟩
  | s :: s' :: r, h => by
    unfold cutS
    split
    · exact h
    · rename_i hn
      split
      · rename_i hlt
        obtain ⟨h1, h2, h3⟩ := h
        exact ⟨by simp; omega, fun z a b => h2 z a (by simp at b; omega), by simpa using hlt, fun z a b => h2 z (by simp at a; omega) b, h3⟩
      · rename_i hge
        obtain ⟨h1, h2, h3⟩ := h
        have ih := rep_cut y h3
        obtain ⟨q, hq⟩ := cut_head y s' r
        rw [hq] at ih ⊢
        exact ⟨h1, h2, ih⟩

/-- no shelf goes over the row y -/
def Bd (y : Int) : List Sh → Prop
  | [] => True
  | [s] => y ≤ s.top
  | s :: s' :: r => (y ≤ s.top ∨ s'.top ≤ y) ∧ Bd y (s' :: r)

theorem bd_of_le (y : Int) {g : Int → Int × Int} : ∀ {s : Sh} {r : List Sh}, Rep g (s :: r) → y ≤ s.top → Bd y (s :: r)
  | s, [], _, h => h
  | s, s' :: r, hr, h => ⟨.inl h, bd_of_le y hr.2.2 (by have := hr.1; omega)⟩

theorem bd_cut (y : Int) {g : Int → Int × Int} : ∀ {xs : List Sh}, Rep g xs → Bd y (cutS y xs)
  | [s], h => by
    unfold cutS
    split
    · assumption
    · rename_i hn
      exact ⟨.inr (by simp), by simp [Bd]⟩
  | s :: s' :: r, h => by
    unfold cutS
    split
    · rename_i hle; exact bd_of_le y h hle
    · rename_i hn
      split
      · rename_i hlt
        obtain ⟨h1, h2, h3⟩ := h
        exact ⟨.inr (by simp), .inl (by simp), bd_of_le y h3 (by omega)⟩
      · rename_i hge
        have ih := bd_cut y h.2.2
        obtain ⟨q, hq⟩ := cut_head y s' r
        rw [hq] at ih ⊢
        exact ⟨.inr (by omega), ih⟩

theorem bd_cut_keep (z y : Int) {g : Int → Int × Int} : ∀ {xs : List Sh}, Rep g xs → Bd z xs → Bd z (cutS y xs)
  | [s], h, hz => by
    unfold cutS
    split
    · exact hz
    · simp only [Bd] at hz ⊢
      exact ⟨.inl hz, by omega⟩
  | s :: s' :: r, h, hz => by
    unfold cutS
    split
    · exact hz
    · rename_i hn
      split
      · rename_i hlt
        obtain ⟨h1, h2⟩ := hz
        refine ⟨?_, ?_, h2⟩
        · rcases h1 with h1 | h1
          · exact .inl h1
          · exact .inr (by simp; omega)
        · rcases h1 with h1 | h1
          · exact .inl (by dsimp only; omega)
          · exact .inr (by omega)
      · have ih := bd_cut_keep z y h.2.2 hz.2
        obtain ⟨q, hq⟩ := cut_head y s' r
        rw [hq] at ih ⊢
        exact ⟨hz.1, ih⟩

def gput (f : Flt) (g : Int → Int × Int) (y : Int) : Int × Int :=
  if f.t ≤ y ∧ y < f.b then (if f.side = 1 then (max (g y).1 f.r, (g y).2) else ((g y).1, min (g y).2 f.l)) else g y

theorem putS_top (f : Flt) (s : Sh) : (putS f s).top = s.top := by unfold putS; split; split <;> rfl; rfl

theorem gput_of {f : Flt} {g : Int → Int × Int} {s : Sh} {y : Int} (h : g y = (s.left, s.right)) (he : (f.t ≤ y ∧ y < f.b) ↔ (f.t ≤ s.top ∧ s.top < f.b)) :
    gput f g y = ((putS f s).left, (putS f s).right) := by
  unfold gput putS
  by_cases hc : f.t ≤ y ∧ y < f.b
  · rw [if_pos hc, if_pos (he.1 hc)]
    split <;> simp [h]
  · rw [if_neg hc, if_neg (fun h' => hc (he.2 h'))]
    exact h

theorem rep_put (f : Flt) {g : Int → Int × Int} : ∀ {xs : List Sh}, Rep g xs → Bd f.t xs → Bd f.b xs → Rep (gput f g) (xs.map (putS f))
  | [s], h, ht, hb => by
    simp only [Bd] at ht hb
    simp only [List.map_cons, List.map_nil, Rep, putS_top]
    exact fun y hy => gput_of (h y hy) ⟨fun ⟨a, b⟩ => by omega, fun ⟨a, b⟩ => by omega⟩
  | s :: s' :: r, h, ht, hb => by
    obtain ⟨h1, h2, h3⟩ := h
    have ih := rep_put f h3 ht.2 hb.2
    simp only [List.map_cons, Rep, putS_top] at ih ⊢
    refine ⟨h1, fun y a b => gput_of (h2 y a b) ?_, ih⟩
    have e1 := ht.1
    have e2 := hb.1
    omega

theorem compactTo_head (s : Sh) : ∀ r : List Sh, ∃ q, compactTo s r = s :: q
  | [] => ⟨_, rfl⟩
  | x :: r => by
    unfold compactTo
    split
    · exact compactTo_head s r
    · exact ⟨_, rfl⟩

theorem rep_compactTo {g : Int → Int × Int} : ∀ {s : Sh} {r : List Sh}, Rep g (s :: r) → Rep g (compactTo s r)
  | s, [], h => h
  | s, x :: r, h => by
    unfold compactTo
    split
    · rename_i he
      refine rep_compactTo ?_
      obtain ⟨h1, h2, h3⟩ := h
      cases r with
      | nil =>
        intro y hy
        by_cases hlt : y < x.top
        · exact h2 y hy hlt
        · rw [he.1, he.2]; exact h3 y (by omega)
      | cons x' r =>
        obtain ⟨h4, h5, h6⟩ := h3
        refine ⟨by omega, fun y a b => ?_, h6⟩
        by_cases hlt : y < x.top
        · exact h2 y a hlt
        · rw [he.1, he.2]; exact h5 y (by omega) b
    · obtain ⟨h1, h2, h3⟩ := h
      have ih := rep_compactTo h3
      obtain ⟨q, hq⟩ := compactTo_head x r
      rw [hq] at ih ⊢
      exact ⟨h1, h2, ih⟩
termination_by _ r => r.length

theorem apart_compactTo : ∀ (s : Sh) (r : List Sh), Apart (compactTo s r)
  | s, [] => trivial
  | s, x :: r => by
    unfold compactTo
    split
    · exact apart_compactTo s r
    · rename_i he
      have ih := apart_compactTo x r
      obtain ⟨q, hq⟩ := compactTo_head x r
      rw [hq] at ih ⊢
      exact ⟨he, ih⟩

theorem rep_unique {g : Int → Int × Int} : ∀ {a b : Sh} {r q : List Sh}, Rep g (a :: r) → Rep g (b :: q) → Apart (a :: r) → Apart (b :: q) → a.top = b.top → a :: r = b :: q
  | a, b, [], [], h, k, _, _, e => by
    have h1 := h a.top (Int.le_refl _)
    have h2 := k a.top (by omega)
    rw [h1] at h2
    cases a; cases b
    simp_all
  | a, b, x :: r, [], h, k, ha, _, e => by
    exfalso
    obtain ⟨h1, h2, h3⟩ := h
    have hx : g x.top = (x.left, x.right) := by
      cases r with
      | nil => exact h3 _ (Int.le_refl _)
      | cons y r => exact h3.2.1 _ (Int.le_refl _) h3.1
    have ea := h2 a.top (Int.le_refl _) h1
    rw [k _ (by omega)] at hx
    rw [k _ (by omega)] at ea
    rw [hx] at ea
    exact ha.1 (by simp only [Prod.mk.injEq] at ea; exact ⟨ea.1.symm, ea.2.symm⟩)
  | a, b, [], x :: r, k, h, _, ha, e => by
    exfalso
    obtain ⟨h1, h2, h3⟩ := h
    have hx : g x.top = (x.left, x.right) := by
      cases r with
      | nil => exact h3 _ (Int.le_refl _)
      | cons y r => exact h3.2.1 _ (Int.le_refl _) h3.1
    have ea := h2 b.top (Int.le_refl _) h1
    rw [k _ (by omega)] at hx
    rw [k _ (by omega)] at ea
    rw [hx] at ea
    exact ha.1 (by simp only [Prod.mk.injEq] at ea; exact ⟨ea.1.symm, ea.2.symm⟩)
  | a, b, x :: r, y :: q, h, k, ha, hb, e => by
    have hx : g x.top = (x.left, x.right) := by
      cases r with
      | nil => exact h.2.2 _ (Int.le_refl _)
      | cons y r => exact h.2.2.2.1 _ (Int.le_refl _) h.2.2.1
    have hy : g y.top = (y.left, y.right) := by
      cases q with
      | nil => exact k.2.2 _ (Int.le_refl _)
      | cons y r => exact k.2.2.2.1 _ (Int.le_refl _) k.2.2.1
    have ea := h.2.1 a.top (Int.le_refl _) h.1
    have eb := k.2.1 b.top (Int.le_refl _) k.1
    have hxy : x.top = y.top := by
      rcases Int.lt_trichotomy x.top y.top with hlt | heq | hgt
      · exfalso
        have := k.2.1 x.top (by have := h.1; omega) hlt
        rw [hx, ← eb, ← e, ea] at this
        exact ha.1 (by simp only [Prod.mk.injEq] at this; exact ⟨this.1.symm, this.2.symm⟩)
      · exact heq
      · exfalso
        have := h.2.1 y.top (by have := k.1; omega) hgt
        rw [hy, ← ea, e, eb] at this
        exact hb.1 (by simp only [Prod.mk.injEq] at this; exact ⟨this.1.symm, this.2.symm⟩)
    have ih := rep_unique h.2.2 k.2.2 ha.2 hb.2 hxy
    rw [e, eb] at ea
    cases a; cases b
    simp_all

/-! the bounds as greatest and least -/

theorem lft_spec (y : Int) : ∀ (l : List Flt) (a : Int), a ≤ l.foldl (stepL y) a ∧ (∀ f ∈ l, counts f = true → f.t ≤ y → y < f.b → f.side = 1 → f.r ≤ l.foldl (stepL y) a) ∧
    (l.foldl (stepL y) a = a ∨ ∃ f ∈ l, counts f = true ∧ f.t ≤ y ∧ y < f.b ∧ f.side = 1 ∧ f.r = l.foldl (stepL y) a)
  | [], a => ⟨Int.le_refl _, by simp, .inl rfl⟩
  | f :: l, a => by
    obtain ⟨h1, h2, h3⟩ := lft_spec y l (stepL y a f)
    have hs : a ≤ stepL y a f := by unfold stepL; split <;> omega
    refine ⟨by simp only [List.foldl_cons]; omega, ?_, ?_⟩
    · intro f' hf' c1 c2 c3 c4
      simp only [List.foldl_cons]
      rcases List.mem_cons.1 hf' with rfl | hm
      · refine Int.le_trans ?_ h1
        unfold stepL
        by_cases hlt : a < f'.r
        · rw [if_pos ⟨c1, c2, c3, c4, hlt⟩]; omega
        · rw [if_neg (fun h => hlt h.2.2.2.2)]; omega
      · exact h2 f' hm c1 c2 c3 c4
    · simp only [List.foldl_cons]
      rcases h3 with h3 | ⟨f', hm, hh⟩
      · by_cases hc : counts f = true ∧ f.t ≤ y ∧ y < f.b ∧ f.side = 1 ∧ a < f.r
        · right
          refine ⟨f, by simp, hc.1, hc.2.1, hc.2.2.1, hc.2.2.2.1, ?_⟩
          rw [h3]; unfold stepL; rw [if_pos hc]
        · left; rw [h3]; unfold stepL; rw [if_neg hc]
      · right; exact ⟨f', by simp [hm], hh⟩

theorem rgt_spec (y : Int) : ∀ (l : List Flt) (a : Int), l.foldl (stepR y) a ≤ a ∧ (∀ f ∈ l, counts f = true → f.t ≤ y → y < f.b → f.side = 2 → l.foldl (stepR y) a ≤ f.l) ∧
    (l.foldl (stepR y) a = a ∨ ∃ f ∈ l, counts f = true ∧ f.t ≤ y ∧ y < f.b ∧ f.side = 2 ∧ f.l = l.foldl (stepR y) a)
  | [], a => ⟨Int.le_refl _, by simp, .inl rfl⟩
  | f :: l, a => by
    obtain ⟨h1, h2, h3⟩ := rgt_spec y l (stepR y a f)
    have hs : stepR y a f ≤ a := by unfold stepR; split <;> omega
    refine ⟨by simp only [List.foldl_cons]; omega, ?_, ?_⟩
    · intro f' hf' c1 c2 c3 c4
      simp only [List.foldl_cons]
      rcases List.mem_cons.1 hf' with rfl | hm
      · refine Int.le_trans h1 ?_
        unfold stepR
        by_cases hlt : f'.l < a
        · rw [if_pos ⟨c1, c2, c3, c4, hlt⟩]; omega
        · rw [if_neg (fun h => hlt h.2.2.2.2)]; omega
      · exact h2 f' hm c1 c2 c3 c4
    · simp only [List.foldl_cons]
      rcases h3 with h3 | ⟨f', hm, hh⟩
      · by_cases hc : counts f = true ∧ f.t ≤ y ∧ y < f.b ∧ f.side = 2 ∧ f.l < a
        · right
          refine ⟨f, by simp, hc.1, hc.2.1, hc.2.2.1, hc.2.2.2.1, ?_⟩
          rw [h3]; unfold stepR; rw [if_pos hc]
        · left; rw [h3]; unfold stepR; rw [if_neg hc]
      · right; exact ⟨f', by simp [hm], hh⟩

theorem stepL_put {f : Flt} (hc : counts f = true) (hs : f.side = 1 ∨ f.side = 2) (y a b : Int) :
    (stepL y a f, stepR y b f) = if f.t ≤ y ∧ y < f.b then (if f.side = 1 then (max a f.r, b) else (a, min b f.l)) else (a, b) := by
  by_cases hy : f.t ≤ y ∧ y < f.b
  · rw [if_pos hy]
    rcases hs with hs | hs
    · rw [if_pos hs]
      have e2 : stepR y b f = b := if_neg (fun h => by have := h.2.2.2.1; omega)
      rw [e2]
      have e1 : stepL y a f = max a f.r := by
        by_cases hl : a < f.r
        · exact (if_pos ⟨hc, hy.1, hy.2, hs, hl⟩).trans (by omega)
        · exact (if_neg (fun h => hl h.2.2.2.2)).trans (by omega)
      rw [e1]
    · rw [if_neg (show ¬ f.side = 1 by omega)]
      have e2 : stepL y a f = a := if_neg (fun h => by have := h.2.2.2.1; omega)
      rw [e2]
      have e1 : stepR y b f = min b f.l := by
        by_cases hl : f.l < b
        · exact (if_pos ⟨hc, hy.1, hy.2, hs, hl⟩).trans (by omega)
        · exact (if_neg (fun h => hl h.2.2.2.2)).trans (by omega)
      rw [e1]
  · unfold stepL stepR
    rw [if_neg hy, if_neg (fun h => hy ⟨h.2.1, h.2.2.1⟩), if_neg (fun h => hy ⟨h.2.1, h.2.2.1⟩)]

theorem counts_side {f : Flt} (hc : counts f = true) : f.side = 1 ∨ f.side = 2 := by
  unfold counts at hc; simp only [decide_eq_true_eq] at hc; exact hc.2.2

theorem gOf_snoc (l : List Flt) (f : Flt) : gOf (l ++ [f]) = if counts f = true then gput f (gOf l) else gOf l := by
  funext y
  have e : gOf (l ++ [f]) y = (stepL y (lftOf l y) f, stepR y (rgtOf l y) f) := by
    unfold gOf lftOf rgtOf; simp only [List.foldl_append, List.foldl_cons, List.foldl_nil]
  rw [e]
  by_cases hc : counts f = true
  · rw [if_pos hc, stepL_put hc (counts_side hc)]; rfl
  · rw [if_neg hc]
    unfold stepL stepR
    rw [if_neg (fun h => hc h.1), if_neg (fun h => hc h.1)]
    rfl

theorem rep_new : Rep (gOf []) newS := fun _ _ => rfl

theorem addS_head (xs : List Sh) (f : Flt) (s : Sh) (r : List Sh) (h : xs = s :: r) : ∃ s' q, addS xs f = s' :: q ∧ s'.top = s.top := by
  subst h
  unfold addS
  split
  · obtain ⟨q1, h1⟩ := cut_head f.t s r
    obtain ⟨q2, h2⟩ := cut_head f.b s q1
    rw [h1, h2]
    simp only [List.map_cons, compactS]
    obtain ⟨q3, h3⟩ := compactTo_head (putS f s) (q2.map (putS f))
    rw [h3]
    exact ⟨_, _, rfl, putS_top f s⟩
  · exact ⟨s, r, rfl, rfl⟩

/-- the whole: what shelves come to -/
structure ShInv (l : List Flt) (xs : List Sh) : Prop where
  rep : Rep (gOf l) xs
  apart : Apart xs
  head : ∃ s r, xs = s :: r ∧ s.top = -Far

theorem shInv_new : ShInv [] newS := ⟨rep_new, trivial, _, _, rfl, rfl⟩

theorem shInv_add {l : List Flt} {xs : List Sh} (h : ShInv l xs) (f : Flt) : ShInv (l ++ [f]) (addS xs f) := by
  obtain ⟨hr, ha, s, r, hx, ht⟩ := h
  obtain ⟨s', q, e1, e2⟩ := addS_head xs f s r hx
  refine ⟨?_, ?_, s', q, e1, by omega⟩
  · rw [gOf_snoc]
    unfold addS
    split
    · rename_i hc
      have h1 := rep_cut f.t hr
      have b1 := bd_cut f.t hr
      have h2 := rep_cut f.b h1
      have b2 := bd_cut f.b h1
      have b3 := bd_cut_keep f.t f.b h1 b1
      have h3 := rep_put f h2 b3 b2
      unfold compactS
      split
      · rename_i e; rw [e] at h3; exact h3.elim
      · rename_i s1 r1 e; rw [e] at h3; exact rep_compactTo h3
    · exact hr
  · unfold addS
    split
    · unfold compactS
      split
      · trivial
      · exact apart_compactTo _ _
    · exact ha

theorem shInv_of (l : List Flt) : ShInv l (shelvesOf l) := by
  have key : ∀ (m l : List Flt) (xs : List Sh), ShInv l xs → ShInv (l ++ m) (m.foldl addS xs) := by
    intro m
    induction m with
    | nil => intro l xs h; simpa using h
    | cons f m ih =>
      intro l xs h
      have := ih (l ++ [f]) _ (shInv_add h f)
      simpa using this
  have := key l [] newS shInv_new
  simpa [shelvesOf] using this

theorem shInv_unique {l m : List Flt} {xs ys : List Sh} (h : ShInv l xs) (k : ShInv m ys) (e : gOf l = gOf m) : xs = ys := by
  obtain ⟨h1, h2, s, r, rfl, h3⟩ := h
  obtain ⟨k1, k2, s', r', rfl, k3⟩ := k
  rw [← e] at k1
  exact rep_unique h1 k1 h2 k2 (by omega)

theorem lft_le_of_mem {l m : List Flt} (h : ∀ f ∈ l, f ∈ m) (y : Int) : lftOf l y ≤ lftOf m y := by
  obtain ⟨a1, a2, a3⟩ := lft_spec y l (-Far)
  obtain ⟨b1, b2, b3⟩ := lft_spec y m (-Far)
  unfold lftOf
  rcases a3 with a3 | ⟨f, hf, c1, c2, c3, c4, c5⟩
  · omega
  · have := b2 f (h f hf) c1 c2 c3 c4; omega
theorem rgt_le_of_mem {l m : List Flt} (h : ∀ f ∈ l, f ∈ m) (y : Int) : rgtOf m y ≤ rgtOf l y := by
  obtain ⟨a1, a2, a3⟩ := rgt_spec y l Far
  obtain ⟨b1, b2, b3⟩ := rgt_spec y m Far
  unfold rgtOf
  rcases a3 with a3 | ⟨f, hf, c1, c2, c3, c4, c5⟩
  · omega
  · have := b2 f (h f hf) c1 c2 c3 c4; omega

theorem gOf_eq_of_mem {l m : List Flt} (h : ∀ f, f ∈ l ↔ f ∈ m) : gOf l = gOf m := by
  funext y
  unfold gOf
  rw [Int.le_antisymm (lft_le_of_mem (fun f hf => (h f).1 hf) y) (lft_le_of_mem (fun f hf => (h f).2 hf) y),
    Int.le_antisymm (rgt_le_of_mem (fun f hf => (h f).2 hf) y) (rgt_le_of_mem (fun f hf => (h f).1 hf) y)]

/-! what is free in rows -/

structure IsBand (g : Int → Int × Int) (a b L R : Int) : Prop where
  lo : -Far ≤ L
  hi : R ≤ Far
  all : ∀ y, a ≤ y → y < b → (g y).1 ≤ L ∧ R ≤ (g y).2
  getL : L = -Far ∨ ∃ y, a ≤ y ∧ y < b ∧ (g y).1 = L
  getR : R = Far ∨ ∃ y, a ≤ y ∧ y < b ∧ (g y).2 = R

theorem IsBand.unique {g : Int → Int × Int} {a b L R L' R' : Int} (h : IsBand g a b L R) (k : IsBand g a b L' R') : L = L' ∧ R = R' := by
  have h1 := h.lo; have h2 := h.hi; have k1 := k.lo; have k2 := k.hi
  constructor
  · rcases h.getL with e | ⟨y, a1, a2, a3⟩ <;> rcases k.getL with e' | ⟨y', b1, b2, b3⟩
    · omega
    · have := (h.all y' b1 b2).1; omega
    · have := (k.all y a1 a2).1; omega
    · have := (k.all y a1 a2).1; have := (h.all y' b1 b2).1; omega
  · rcases h.getR with e | ⟨y, a1, a2, a3⟩ <;> rcases k.getR with e' | ⟨y', b1, b2, b3⟩
    · omega
    · have := (h.all y' b1 b2).2; omega
    · have := (k.all y a1 a2).2; omega
    · have := (k.all y a1 a2).2; have := (h.all y' b1 b2).2; omega

def dropTo (y : Int) : List Sh → List Sh
  | [] => []
  | [s] => [s]
  | s :: s' :: r => if s'.top ≤ y then dropTo y (s' :: r) else s :: s' :: r

/-- the number of shelves ahead of that in which a row is -/
def findS (y : Int) : List Sh → Nat
  | [] => 0
  | [_] => 0
  | _ :: s' :: r => if s'.top ≤ y then findS y (s' :: r) + 1 else 0

def clipS (b : Int) : Int × Int → List Sh → Int × Int
  | acc, [] => acc
  | acc, s :: r => if b ≤ s.top then acc else clipS b (max acc.1 s.left, min acc.2 s.right) r

def bandS (xs : List Sh) (a b : Int) : Int × Int := if b - a ≤ 0 then (-Far, Far) else clipS b (-Far, Far) (dropTo a xs)

theorem drop_findS (y : Int) : ∀ xs : List Sh, xs.drop (findS y xs) = dropTo y xs
  | [] => rfl
  | [_] => rfl
  | s :: s' :: r => by
    unfold findS dropTo
    split
    · rw [List.drop_succ_cons]; exact drop_findS y (s' :: r)
    · rfl

theorem findS_lt (y : Int) : ∀ {xs : List Sh}, xs ≠ [] → findS y xs < xs.length
  | [_], _ => by simp [findS]
  | s :: s' :: r, _ => by
    unfold findS
    split
    · have := findS_lt y (xs := s' :: r) (by simp)
      simp at this ⊢; omega
    · simp

theorem clip_spec {g : Int → Int × Int} (hg : ∀ y, -Far ≤ (g y).1 ∧ (g y).2 ≤ Far) (a b : Int) : ∀ (xs : List Sh) (m L R : Int), (∀ s r, xs = s :: r → Rep g xs ∧ s.top = m) → (xs = [] → b ≤ m) → a ≤ m →
    IsBand g a m L R → (m ≤ b) → IsBand g a b (clipS b (L, R) xs).1 (clipS b (L, R) xs).2
  | [], m, L, R, _, hn, _, h, hmb => by
    have e : b = m := by have := hn rfl; omega
    subst e
    exact h
  | s :: r, m, L, R, hx, _, ham, h, hmb => by
    obtain ⟨hr, ht⟩ := hx s r rfl
    unfold clipS
    by_cases hb : b ≤ s.top
    · rw [if_pos hb]
      have e : b = m := by omega
      subst e; exact h
    · rw [if_neg hb]
      -- the rows of this shelf, up to the next one's or to b
      have step : ∀ m', m < m' → (∀ y, m ≤ y → y < m' → g y = (s.left, s.right)) → IsBand g a m' (max L s.left) (min R s.right) := by
        intro m' hm' hy
        have h1 := h.lo; have h2 := h.hi
        have e0 := hy m (Int.le_refl _) hm'
        have hg0 := hg m
        rw [e0] at hg0
        refine ⟨by omega, by omega, fun y y1 y2 => ?_, ?_, ?_⟩
        · by_cases hym : y < m
          · have := h.all y y1 hym; omega
          · rw [hy y (by omega) y2]; dsimp only; omega
        · by_cases hl : s.left ≤ L
          · rw [show max L s.left = L by omega]
            rcases h.getL with e | ⟨y, y1, y2, y3⟩
            · exact .inl e
            · exact .inr ⟨y, y1, by omega, y3⟩
          · exact .inr ⟨m, ham, hm', by rw [e0]; dsimp only; omega⟩
        · by_cases hl : R ≤ s.right
          · rw [show min R s.right = R by omega]
            rcases h.getR with e | ⟨y, y1, y2, y3⟩
            · exact .inl e
            · exact .inr ⟨y, y1, by omega, y3⟩
          · exact .inr ⟨m, ham, hm', by rw [e0]; dsimp only; omega⟩
      cases r with
      | nil =>
        simp only [clipS]
        exact step b (by omega) (fun y y1 _ => hr y (by omega))
      | cons s' r =>
        by_cases hb' : b ≤ s'.top
        · unfold clipS
          rw [if_pos hb']
          exact step b (by omega) (fun y y1 y2 => hr.2.1 y (by omega) (by omega))
        · exact clip_spec hg a b (s' :: r) s'.top _ _ (fun t q e => by injection e with e1 e2; subst e1; exact ⟨hr.2.2, rfl⟩) (fun e => by cases e) (by have := hr.1; omega)
            (step s'.top (by have := hr.1; omega) (fun y y1 y2 => hr.2.1 y (by omega) y2)) (by omega)

/-- the first shelf of `dropTo` is that in which the row is -/
theorem dropTo_rep {g : Int → Int × Int} (y : Int) : ∀ {xs : List Sh} {s : Sh} {r : List Sh}, xs = s :: r → Rep g xs → s.top ≤ y →
    ∃ t q, dropTo y xs = t :: q ∧ Rep g (t :: q) ∧ t.top ≤ y ∧ (∀ t' q', q = t' :: q' → y < t'.top)
  | _, s, [], rfl, h, hs => ⟨s, [], rfl, h, hs, by simp⟩
  | _, s, s' :: r, rfl, h, hs => by
    unfold dropTo
    by_cases hle : s'.top ≤ y
    · rw [if_pos hle]
      exact dropTo_rep y rfl h.2.2 hle
    · rw [if_neg hle]
      exact ⟨s, s' :: r, rfl, h, hs, fun t' q' e => by injection e with e1 e2; subst e1; omega⟩

theorem gOf_far (l : List Flt) (y : Int) : -Far ≤ (gOf l y).1 ∧ (gOf l y).2 ≤ Far :=
  ⟨(lft_spec y l (-Far)).1, (rgt_spec y l Far).1⟩

theorem band_spec {g : Int → Int × Int} (hg : ∀ y, -Far ≤ (g y).1 ∧ (g y).2 ≤ Far) {xs : List Sh} {s : Sh} {r : List Sh} (hx : xs = s :: r) (h : Rep g xs) {a b : Int} (ha : s.top ≤ a) :
    IsBand g a b (bandS xs a b).1 (bandS xs a b).2 := by
  unfold bandS
  by_cases hab : b - a ≤ 0
  · rw [if_pos hab]
    exact ⟨Int.le_refl _, Int.le_refl _, fun y y1 y2 => by omega, .inl rfl, .inl rfl⟩
  · rw [if_neg hab]
    obtain ⟨t, q, e, hr, ht, hq⟩ := dropTo_rep a hx h ha
    rw [e]
    -- as if the first shelf began at a
    have hr' : Rep g ({ t with top := a } :: q) := by
      cases q with
      | nil => exact fun y hy => hr y (by simp at hy; omega)
      | cons t' q => exact ⟨hq _ _ rfl, fun y y1 y2 => hr.2.1 y (by simp at y1; omega) y2, hr.2.2⟩
    have := clip_spec hg a b ({ t with top := a } :: q) a (-Far) Far (fun s' r' e => by injection e with e1 e2; subst e1; exact ⟨hr', rfl⟩) (fun e => by cases e) (Int.le_refl _)
      ⟨Int.le_refl _, Int.le_refl _, fun y y1 y2 => by omega, .inl rfl, .inl rfl⟩ (by omega)
    have e2 : ∀ acc, clipS b acc (t :: q) = clipS b acc ({ t with top := a } :: q) := by
      intro acc
      unfold clipS
      dsimp only
      rw [if_neg (by omega), if_neg (by omega)]
    rw [e2]
    exact this



/-! the document's answers -/

def refBandStep (l : List Flt) (a b : Int) (acc : Int × Int) (f : Flt) : Int × Int :=
  if a < f.t ∧ f.t < b then
    (if acc.1 < (gOf l f.t).1 then (gOf l f.t).1 else acc.1, if (gOf l f.t).2 < acc.2 then (gOf l f.t).2 else acc.2)
  else acc
def refBand (l : List Flt) (a b : Int) : Int × Int := if b ≤ a then (-Far, Far) else l.foldl (refBandStep l a b) (gOf l a)

theorem refBand_fold (l : List Flt) (a b : Int) : ∀ (m : List Flt) (acc : Int × Int),
    acc.1 ≤ (m.foldl (refBandStep l a b) acc).1 ∧ (m.foldl (refBandStep l a b) acc).2 ≤ acc.2 ∧
    (∀ f ∈ m, a < f.t → f.t < b → (gOf l f.t).1 ≤ (m.foldl (refBandStep l a b) acc).1 ∧ (m.foldl (refBandStep l a b) acc).2 ≤ (gOf l f.t).2) ∧
    ((m.foldl (refBandStep l a b) acc).1 = acc.1 ∨ ∃ f ∈ m, a < f.t ∧ f.t < b ∧ (gOf l f.t).1 = (m.foldl (refBandStep l a b) acc).1) ∧
    ((m.foldl (refBandStep l a b) acc).2 = acc.2 ∨ ∃ f ∈ m, a < f.t ∧ f.t < b ∧ (gOf l f.t).2 = (m.foldl (refBandStep l a b) acc).2)
  | [], acc => by simp
  | f :: m, acc => by
    have hs : acc.1 ≤ (refBandStep l a b acc f).1 ∧ (refBandStep l a b acc f).2 ≤ acc.2 ∧ (a < f.t → f.t < b → (gOf l f.t).1 ≤ (refBandStep l a b acc f).1 ∧ (refBandStep l a b acc f).2 ≤ (gOf l f.t).2) ∧
        ((refBandStep l a b acc f).1 = acc.1 ∨ (a < f.t ∧ f.t < b ∧ (gOf l f.t).1 = (refBandStep l a b acc f).1)) ∧
        ((refBandStep l a b acc f).2 = acc.2 ∨ (a < f.t ∧ f.t < b ∧ (gOf l f.t).2 = (refBandStep l a b acc f).2)) := by
      unfold refBandStep
      by_cases hc : a < f.t ∧ f.t < b
      · rw [if_pos hc]
        dsimp only
        refine ⟨by split <;> omega, by split <;> omega, fun _ _ => ⟨by split <;> omega, by split <;> omega⟩, ?_, ?_⟩
        · split
          · exact .inr ⟨hc.1, hc.2, rfl⟩
          · exact .inl rfl
        · split
          · exact .inr ⟨hc.1, hc.2, rfl⟩
          · exact .inl rfl
      · rw [if_neg hc]
        exact ⟨Int.le_refl _, Int.le_refl _, fun h1 h2 => absurd ⟨h1, h2⟩ hc, .inl rfl, .inl rfl⟩
    obtain ⟨s1, s2, s3, s4, s5⟩ := hs
    simp only [List.foldl_cons]
    generalize refBandStep l a b acc f = acc' at *
    obtain ⟨h1, h2, h3, h4, h5⟩ := refBand_fold l a b m acc'
    refine ⟨by omega, by omega, ?_, ?_, ?_⟩
    · intro f' hf' c1 c2
      rcases List.mem_cons.1 hf' with rfl | hm
      · have := s3 c1 c2; omega
      · exact h3 f' hm c1 c2
    · rcases h4 with h4 | ⟨f', hm, hh⟩
      · rcases s4 with s4 | ⟨c1, c2, c3⟩
        · exact .inl (by omega)
        · exact .inr ⟨f, by simp, c1, c2, by omega⟩
      · exact .inr ⟨f', by simp [hm], hh⟩
    · rcases h5 with h5 | ⟨f', hm, hh⟩
      · rcases s5 with s5 | ⟨c1, c2, c3⟩
        · exact .inl (by omega)
        · exact .inr ⟨f, by simp, c1, c2, by omega⟩
      · exact .inr ⟨f', by simp [hm], hh⟩

theorem lft_get (l : List Flt) (y : Int) : (gOf l y).1 = -Far ∨ ∃ f ∈ l, counts f = true ∧ f.t ≤ y ∧ y < f.b ∧ f.side = 1 ∧ f.r = (gOf l y).1 := (lft_spec y l (-Far)).2.2
theorem rgt_get (l : List Flt) (y : Int) : (gOf l y).2 = Far ∨ ∃ f ∈ l, counts f = true ∧ f.t ≤ y ∧ y < f.b ∧ f.side = 2 ∧ f.l = (gOf l y).2 := (rgt_spec y l Far).2.2
theorem lft_ge {l : List Flt} {f : Flt} (hf : f ∈ l) (hc : counts f = true) {y : Int} (h1 : f.t ≤ y) (h2 : y < f.b) (hs : f.side = 1) : f.r ≤ (gOf l y).1 := (lft_spec y l (-Far)).2.1 f hf hc h1 h2 hs
theorem rgt_le {l : List Flt} {f : Flt} (hf : f ∈ l) (hc : counts f = true) {y : Int} (h1 : f.t ≤ y) (h2 : y < f.b) (hs : f.side = 2) : (gOf l y).2 ≤ f.l := (rgt_spec y l Far).2.1 f hf hc h1 h2 hs

theorem counts_tb {f : Flt} (h : counts f = true) : f.t < f.b := by unfold counts at h; simp only [decide_eq_true_eq] at h; exact h.2.1

theorem refBand_spec (l : List Flt) (a b : Int) : IsBand (gOf l) a b (refBand l a b).1 (refBand l a b).2 := by
  unfold refBand
  by_cases hab : b ≤ a
  · rw [if_pos hab]
    exact ⟨Int.le_refl _, Int.le_refl _, fun y y1 y2 => by omega, .inl rfl, .inl rfl⟩
  · rw [if_neg hab]
    obtain ⟨h1, h2, h3, h4, h5⟩ := refBand_fold l a b l (gOf l a)
    have hf := gOf_far l a
    refine ⟨by omega, by omega, fun y y1 y2 => ⟨?_, ?_⟩, ?_, ?_⟩
    · rcases lft_get l y with e | ⟨f, hm, c1, c2, c3, c4, c5⟩
      · omega
      · by_cases hfa : f.t ≤ a
        · have := lft_ge hm c1 hfa (by omega) c4; omega
        · have := (h3 f hm (by omega) (by omega)).1
          have := lft_ge hm c1 (Int.le_refl f.t) (counts_tb c1) c4
          omega
    · rcases rgt_get l y with e | ⟨f, hm, c1, c2, c3, c4, c5⟩
      · omega
      · by_cases hfa : f.t ≤ a
        · have := rgt_le hm c1 hfa (by omega) c4; omega
        · have := (h3 f hm (by omega) (by omega)).2
          have := rgt_le hm c1 (Int.le_refl f.t) (counts_tb c1) c4
          omega
    · rcases h4 with h4 | ⟨f, _, c1, c2, c3⟩
      · exact .inr ⟨a, Int.le_refl _, by omega, h4.symm⟩
      · exact .inr ⟨f.t, by omega, c2, c3⟩
    · rcases h5 with h5 | ⟨f, _, c1, c2, c3⟩
      · exact .inr ⟨a, Int.le_refl _, by omega, h5.symm⟩
      · exact .inr ⟨f.t, by omega, c2, c3⟩

/-- what the shelves of floats leave free -/
def bandOf (l : List Flt) (a b : Int) : Int × Int := bandS (shelvesOf l) a b

theorem bandOf_spec (l : List Flt) {a b : Int} (ha : -Far ≤ a) : IsBand (gOf l) a b (bandOf l a b).1 (bandOf l a b).2 := by
  obtain ⟨hr, _, s, r, e, ht⟩ := shInv_of l
  unfold bandOf
  exact band_spec (gOf_far l) e hr (by omega)

theorem bandOf_ref (l : List Flt) {a b : Int} (ha : -Far ≤ a) : bandOf l a b = refBand l a b := by
  have := (bandOf_spec l (b := b) ha).unique (refBand_spec l a b)
  exact Prod.ext this.1 this.2

/-- the next edge below a row -/
def nextStep (y : Int) (best : Option Int) (f : Flt) : Option Int :=
  let one := fun (best : Option Int) (e : Int) => if counts f = true ∧ y < e ∧ (∀ b, best = some b → e < b) then some e else best
  one (one best f.t) f.b



/-! looking for the highest place -/

/-- the tops of the shelves below a row -/
def topsBelow (y : Int) : List Sh → List Int
  | [] => []
  | s :: r => if y < s.top then s.top :: r.map (·.top) else topsBelow y r

def firstY (so : Int → Bool) : List Int → Int → Int
  | [], y => y
  | t :: ts, y => if so y then y else firstY so ts t

def askedY (so : Int → Bool) : List Int → Int → List Int
  | [], y => [y]
  | t :: ts, y => if so y then [y] else y :: askedY so ts t

theorem firstY_ge (so : Int → Bool) : ∀ (ts : List Int) (y : Int), (y :: ts).Pairwise (· < ·) → y ≤ firstY so ts y
  | [], y, _ => Int.le_refl _
  | t :: ts, y, h => by
    unfold firstY
    split
    · exact Int.le_refl _
    · have h' := List.pairwise_cons.1 h
      have := firstY_ge so ts t h'.2
      have := h'.1 t (by simp)
      omega

/-- if so at all, then not above, provided that between two tops nothing becomes so -/
theorem firstY_least (so : Int → Bool) : ∀ (ts : List Int) (y : Int), (y :: ts).Pairwise (· < ·) → (∀ a b, y ≤ a → a ≤ b → (∀ t ∈ ts, t ≤ a ∨ b < t) → so b = true → so a = true) →
    ∀ z, y ≤ z → z < firstY so ts y → so z = false
  | [], y, _, _, z, h1, h2 => by unfold firstY at h2; omega
  | t :: ts, y, hp, hm, z, h1, h2 => by
    unfold firstY at h2
    split at h2
    · omega
    · rename_i hy
      have hy' : so y = false := by simpa using hy
      have hp' := List.pairwise_cons.1 hp
      have hyt := hp'.1 t (by simp)
      by_cases hz : z < t
      · cases hsz : so z with
        | false => rfl
        | true =>
          exfalso
          have := hm y z (Int.le_refl _) h1 (fun t' ht' => .inr (by
            rcases List.mem_cons.1 ht' with rfl | ht'
            · exact hz
            · have := (List.pairwise_cons.1 hp'.2).1 t' ht'; omega)) hsz
          rw [hy'] at this; cases this
      · refine firstY_least so ts t hp'.2 (fun a b ha hab ht => hm a b (by omega) hab (fun t' ht' => ?_)) z (by omega) h2
        rcases List.mem_cons.1 ht' with rfl | ht'
        · exact .inl ha
        · exact ht t' ht'

theorem firstY_so (so : Int → Bool) : ∀ (ts : List Int) (y : Int), so ((y :: ts).getLast (by simp)) = true → so (firstY so ts y) = true
  | [], y, h => h
  | t :: ts, y, h => by
    unfold firstY
    split
    · assumption
    · exact firstY_so so ts t (by rw [List.getLast_cons (by simp)] at h; exact h)

/-- whichever is the first place that is so -/
theorem first_unique {so : Int → Bool} {y a b : Int} (ha : y ≤ a) (hb : y ≤ b) (sa : so a = true) (sb : so b = true) (la : ∀ z, y ≤ z → z < a → so z = false) (lb : ∀ z, y ≤ z → z < b → so z = false) : a = b := by
  rcases Int.lt_trichotomy a b with h | h | h
  · have := lb a ha h; rw [sa] at this; cases this
  · exact h
  · have := la b hb h; rw [sb] at this; cases this

theorem topsBelow_pairwise {g : Int → Int × Int} (y : Int) : ∀ {xs : List Sh}, Rep g xs → (y :: topsBelow y xs).Pairwise (· < ·)
  | [s], _ => by unfold topsBelow topsBelow; split <;> simp_all
  | s :: s' :: r, h => by
    unfold topsBelow
    split
    · rename_i hlt
      have hh := rep_head_le h
      have hmap : ∀ {xs : List Sh}, Rep g xs → (xs.map (·.top)).Pairwise (· < ·) := by
        intro xs
        induction xs with
        | nil => intro h; exact h.elim
        | cons a q ih =>
          intro h
          rw [List.map_cons, List.pairwise_cons]
          refine ⟨fun t ht => ?_, ?_⟩
          · obtain ⟨x, hx, rfl⟩ := List.mem_map.1 ht
            exact rep_head_le h x hx
          · cases q with
            | nil => simp
            | cons b q => exact ih h.2.2
      rw [List.pairwise_cons]
      refine ⟨fun t ht => ?_, hmap h⟩
      rcases List.mem_cons.1 ht with rfl | ht
      · exact hlt
      · obtain ⟨x, hx, rfl⟩ := List.mem_map.1 ht
        have := hh x hx; omega
    · exact topsBelow_pairwise y h.2.2

theorem rep_first {g : Int → Int × Int} {s : Sh} {r : List Sh} (h : Rep g (s :: r)) : g s.top = (s.left, s.right) := by
  cases r with
  | nil => exact h _ (Int.le_refl _)
  | cons y r => exact h.2.1 _ (Int.le_refl _) h.1

/-- between two tops nothing changes -/
theorem rep_const {g : Int → Int × Int} (y : Int) : ∀ {xs : List Sh} {s : Sh} {r : List Sh}, xs = s :: r → Rep g xs → s.top ≤ y → ∀ a b, y ≤ a → a ≤ b → (∀ t ∈ topsBelow y xs, t ≤ a ∨ b < t) → g a = g b
  | _, s, [], rfl, h, hs, a, b, ha, hab, _ => by rw [h a (by omega), h b (by omega)]
  | _, s, s' :: r, rfl, h, hs, a, b, ha, hab, ht => by
    unfold topsBelow at ht
    rw [if_neg (by omega)] at ht
    by_cases hle : s'.top ≤ y
    · exact rep_const y rfl h.2.2 hle a b ha hab ht
    · unfold topsBelow at ht
      rw [if_pos (by omega)] at ht
      by_cases hb : b < s'.top
      · rw [h.2.1 a (by omega) (by omega), h.2.1 b (by omega) hb]
      · have ha' : s'.top ≤ a := by
          rcases ht s'.top (by simp) with h1 | h1 <;> omega
        refine rep_const s'.top rfl h.2.2 (Int.le_refl _) a b ha' hab (fun t hm => ht t ?_)
        unfold topsBelow at hm
        rw [if_neg (by omega)] at hm
        have key : ∀ q : List Sh, ∀ t ∈ topsBelow s'.top q, t ∈ q.map (·.top) := by
          intro q
          induction q with
          | nil => intro t ht; simp [topsBelow] at ht
          | cons x q ih =>
            intro t ht
            unfold topsBelow at ht
            split at ht
            · simpa using ht
            · exact List.mem_cons_of_mem _ (ih t ht)
        exact List.mem_cons_of_mem _ (key r t hm)

theorem topsBelow_last {g : Int → Int × Int} (y : Int) : ∀ {xs : List Sh} {s : Sh} {r : List Sh}, xs = s :: r → Rep g xs → s.top ≤ y → ∀ z, (y :: topsBelow y xs).getLast (by simp) ≤ z → g z = g ((y :: topsBelow y xs).getLast (by simp)) := by
  intro xs s r hx h hs z hz
  have hmem : (y :: topsBelow y xs).getLast (by simp) ∈ y :: topsBelow y xs := List.getLast_mem _
  have hp := topsBelow_pairwise y h
  have hall : ∀ t ∈ y :: topsBelow y xs, t ≤ (y :: topsBelow y xs).getLast (by simp) := by
    intro t ht
    have key : ∀ (ts : List Int) (hne : ts ≠ []), ts.Pairwise (· < ·) → ∀ t ∈ ts, t ≤ ts.getLast hne := by
      intro ts
      induction ts with
      | nil => intro h; exact absurd rfl h
      | cons a q ih =>
        intro _ hp t ht
        cases q with
        | nil => simp at ht; subst ht; simp
        | cons b q =>
          rw [List.getLast_cons (by simp)]
          have hp' := List.pairwise_cons.1 hp
          rcases List.mem_cons.1 ht with rfl | ht
          · exact Int.le_of_lt (hp'.1 _ (List.getLast_mem _))
          · exact ih (by simp) hp'.2 t ht
    exact key _ _ hp t ht
  have hy : y ≤ (y :: topsBelow y xs).getLast (by simp) := hall y (by simp)
  exact (rep_const y hx h hs _ z hy hz (fun t ht => .inl (hall t (List.mem_cons_of_mem _ ht)))).symm

/-- if nothing changes between y and y', less is free in rows that begin at y' -/
theorem band_later {g : Int → Int × Int} {y y' h L R L' R' : Int} (hh : 0 < h) (hy : y ≤ y') (hc : ∀ z, y ≤ z → z ≤ y' → g z = g y') (b : IsBand g y (y + h) L R) (b' : IsBand g y' (y' + h) L' R') : L ≤ L' ∧ R' ≤ R := by
  have key : ∀ z, y ≤ z → z < y + h → (g z).1 ≤ L' ∧ R' ≤ (g z).2 := by
    intro z z1 z2
    by_cases hz : z ≤ y'
    · rw [hc z z1 hz]; exact b'.all y' (Int.le_refl _) (by omega)
    · exact b'.all z (by omega) (by omega)
  constructor
  · rcases b.getL with e | ⟨z, z1, z2, z3⟩
    · have := b'.lo; omega
    · have := (key z z1 z2).1; omega
  · rcases b.getR with e | ⟨z, z1, z2, z3⟩
    · have := b'.hi; omega
    · have := (key z z1 z2).2; omega

/-- more rows: less free -/
theorem band_more {g : Int → Int × Int} {y h h' L R L' R' : Int} (hh : h ≤ h') (b : IsBand g y (y + h) L R) (b' : IsBand g y (y + h') L' R') : L ≤ L' ∧ R' ≤ R := by
  constructor
  · rcases b.getL with e | ⟨z, z1, z2, z3⟩
    · have := b'.lo; omega
    · have := (b'.all z z1 (by omega)).1; omega
  · rcases b.getR with e | ⟨z, z1, z2, z3⟩
    · have := b'.hi; omega
    · have := (b'.all z z1 (by omega)).2; omega

def hi1 (h : Int) : Int := max h 1

/-- what is free at y for something so high -/
def bandAt (l : List Flt) (y h : Int) : Int × Int := bandOf l y (y + hi1 h)

theorem bandAt_spec (l : List Flt) {y : Int} (h : Int) (hy : -Far ≤ y) : IsBand (gOf l) y (y + hi1 h) (bandAt l y h).1 (bandAt l y h).2 := bandOf_spec l hy

/-- `so` hangs on what is free alone, and if more is free it is so all the more -/
structure Fair (l : List Flt) (h : Int) (q : Int × Int → Bool) : Prop where
  mono : ∀ p p' : Int × Int, p.1 ≤ p'.1 → p'.2 ≤ p.2 → q p' = true → q p = true
  free : q (-Far, Far) = true

/-- the place where `First` stops -/
def firstOf (l : List Flt) (h : Int) (q : Int × Int → Bool) (y : Int) : Int := firstY (fun z => q (bandAt l z h)) (topsBelow y (shelvesOf l)) y

theorem gOf_high {l : List Flt} {y : Int} (h : ∀ f ∈ l, counts f = true → f.b ≤ y) : gOf l y = (-Far, Far) := by
  have h1 : (gOf l y).1 = -Far := by
    rcases lft_get l y with e | ⟨f, hm, c1, c2, c3, c4, c5⟩
    · exact e
    · have := h f hm c1; omega
  have h2 : (gOf l y).2 = Far := by
    rcases rgt_get l y with e | ⟨f, hm, c1, c2, c3, c4, c5⟩
    · exact e
    · have := h f hm c1; omega
  exact Prod.ext h1 h2

theorem exists_high (l : List Flt) (m : Int) : ∃ z, m ≤ z ∧ ∀ f ∈ l, f.b ≤ z := by
  induction l with
  | nil => exact ⟨m, Int.le_refl _, by simp⟩
  | cons f l ih =>
    obtain ⟨z, h1, h2⟩ := ih
    refine ⟨max z f.b, by omega, fun f' hf' => ?_⟩
    rcases List.mem_cons.1 hf' with rfl | hm
    · omega
    · have := h2 f' hm; omega

theorem firstOf_spec {l : List Flt} {h : Int} {q : Int × Int → Bool} (hq : Fair l h q) {y : Int} (hy : -Far ≤ y) :
    y ≤ firstOf l h q y ∧ q (bandAt l (firstOf l h q y) h) = true ∧ ∀ z, y ≤ z → z < firstOf l h q y → q (bandAt l z h) = false := by
  obtain ⟨hr, _, s, r, e, ht⟩ := shInv_of l
  have hp := topsBelow_pairwise y hr
  refine ⟨firstY_ge _ _ _ hp, ?_, ?_⟩
  · refine firstY_so (fun z => q (bandAt l z h)) _ _ ?_
    have hc := topsBelow_last y e hr (by omega)
    have hge : y ≤ (y :: topsBelow y (shelvesOf l)).getLast (by simp) := by
      have hm : (y :: topsBelow y (shelvesOf l)).getLast (by simp) ∈ y :: topsBelow y (shelvesOf l) := List.getLast_mem _
      rcases List.mem_cons.1 hm with h1 | h1
      · omega
      · exact Int.le_of_lt ((List.pairwise_cons.1 hp).1 _ h1)
    generalize (y :: topsBelow y (shelvesOf l)).getLast (by simp) = m at *
    have hfree : ∀ z, m ≤ z → gOf l z = (-Far, Far) := by
      obtain ⟨w, w1, w2⟩ := exists_high l m
      have := gOf_high (l := l) (y := w) (fun f hf _ => w2 f hf)
      intro z hz
      rw [hc z hz, ← hc w w1, this]
    have hb := bandAt_spec l h (show -Far ≤ m by omega)
    have hall : IsBand (gOf l) m (m + hi1 h) (-Far) Far := ⟨Int.le_refl _, Int.le_refl _, fun z z1 _ => by rw [hfree z z1]; exact ⟨Int.le_refl _, Int.le_refl _⟩, .inl rfl, .inl rfl⟩
    have := hb.unique hall
    have e : bandAt l m h = (-Far, Far) := Prod.ext this.1 this.2
    show q (bandAt l m h) = true
    rw [e]
    exact hq.free
  · refine firstY_least (fun z => q (bandAt l z h)) _ _ hp ?_
    intro a b ha hab hts hb
    have hconst : ∀ z, a ≤ z → z ≤ b → gOf l z = gOf l b := by
      intro z z1 z2
      exact rep_const y e hr (by omega) z b (by omega) z2 (fun t ht => by rcases hts t ht with h1 | h1 <;> omega)
    have := band_later (h := hi1 h) (by unfold hi1; omega) hab hconst (bandAt_spec l h (by omega)) (bandAt_spec l h (by omega))
    exact hq.mono _ _ this.1 this.2 hb

theorem firstOf_unique {l : List Flt} {h : Int} {q : Int × Int → Bool} (hq : Fair l h q) {y a : Int} (hy : -Far ≤ y) (ha : y ≤ a) (sa : q (bandAt l a h) = true) (la : ∀ z, y ≤ z → z < a → q (bandAt l z h) = false) : firstOf l h q y = a := by
  obtain ⟨h1, h2, h3⟩ := firstOf_spec hq hy
  exact first_unique (so := fun z => q (bandAt l z h)) h1 ha h2 sa h3 la

theorem firstOf_le {l m : List Flt} {h h' : Int} {q q' : Int × Int → Bool} (hq : Fair l h q) (hq' : Fair m h' q') {y y' : Int} (hy : -Far ≤ y) (hyy : y ≤ y') (hi : ∀ z, -Far ≤ z → q' (bandAt m z h') = true → q (bandAt l z h) = true) : firstOf l h q y ≤ firstOf m h' q' y' := by
  obtain ⟨h1, h2, h3⟩ := firstOf_spec hq hy
  obtain ⟨k1, k2, k3⟩ := firstOf_spec hq' (show -Far ≤ y' by omega)
  rcases Int.lt_or_le (firstOf m h' q' y') (firstOf l h q y) with hlt | hle
  · have := h3 _ (by omega) hlt
    rw [hi _ (by omega) k2] at this; cases this
  · exact hle


end Go.Proofs.Ytefbeekjoafijaa
