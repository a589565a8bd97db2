/- A region that draws its order: operations that only read (or call what only lays blocks), fresh blocks that may come at any time, then a forced tail: one walk, in the order of the text. -/
import Derived.Test.YtefbeekjoafijaaW
namespace Go.Proofs.Ytefbeekjoafijaa
open Go.RowKit Go.Sort

section
variable {P : Program} {ops : Array Oper} {md : Region.Mode} {w0 : World}

/-- the world w0 with something behind it -/
abbrev gw (w0 : World) (p : GrownBy) : World := Go.Sort.grow (w0.drewN p.n) p.os

theorem gw_after (w0 : World) (p : GrownBy) : After w0 (gw w0 p) := After.of_grown _ _
theorem after_gw {w0 w : World} (h : After w0 w) : ∃ p, w = gw w0 p := by obtain ⟨q, os, e⟩ := h.grown; exact ⟨⟨q, os⟩, e⟩

def quietR (P : Program) (o : Oper) (a : Act) (w0 : World) (next : Act → Prop) : Prop := ∃ v, (∀ p : GrownBy, o.quietAt P a (After (gw w0 p)) (gw w0 p) v) ∧ next (a.put o.dst v)

def YieldsR (P : Program) (ops : Array Oper) (w0 : World) (o : Oper) (v : Value) (a : Act) : Prop :=
  (Region.wanted o (yielded ops a.tmps) = true ∧ ∀ p : GrownBy, o.quietAt P a (After (gw w0 p)) (gw w0 p) v) ∨
  (Region.wanted o (yielded ops a.tmps) = false ∧ v = undef)

def qOpR (P : Program) (ops : Array Oper) (w0 : World) (i : Nat) (K : Act → Prop) (a : Act) : Prop :=
  match ops[i]? with
  | none => K a
  | some o => if Region.wanted o (yielded ops a.tmps) then quietR P o a w0 K else K (a.put o.dst undef)

theorem quietR_mono {o : Oper} {a : Act} {K K' : Act → Prop} (h : ∀ a, K a → K' a) (hh : quietR P o a w0 K) : quietR P o a w0 K' :=
  let ⟨v, h1, h2⟩ := hh
  ⟨v, h1, h _ h2⟩

theorem qOpR_mono {i : Nat} {a : Act} {K K' : Act → Prop} (h : ∀ a, K a → K' a) (hh : qOpR P ops w0 i K a) : qOpR P ops w0 i K' a := by
  unfold qOpR at *
  split
  · exact h _ (by simpa [*] using hh)
  · rename_i o ho
    simp only [ho] at hh
    split
    · rename_i hw; simp only [hw, if_true] at hh; exact quietR_mono h hh
    · rename_i hw; simp only [hw] at hh; exact h _ hh

theorem YieldsR.qOpR {i : Nat} {o : Oper} {v : Value} {a : Act} (hi : ops[i]? = some o) (hy : YieldsR P ops w0 o v a) {K : Act → Prop} (h : K (a.put o.dst v)) : qOpR P ops w0 i K a := by
  unfold Go.Proofs.Ytefbeekjoafijaa.qOpR
  simp only [hi]
  rcases hy with ⟨hw, hv⟩ | ⟨hw, rfl⟩
  · simp only [hw, if_true]; exact ⟨v, hv, h⟩
  · simp only [hw, Bool.false_eq_true, if_false]; exact h

theorem YieldsR.of_same {o : Oper} {v : Value} {a a' : Act} (hy : YieldsR P ops w0 o v a) (he : execOp a'.eval o = execOp a.eval o)
    (hw : Region.wanted o (yielded ops a'.tmps) = Region.wanted o (yielded ops a.tmps)) : YieldsR P ops w0 o v a' := by
  unfold YieldsR Oper.quietAt at *
  rw [he, hw]
  exact hy

theorem yieldsR_of_qOpR {i : Nat} {o : Oper} {a : Act} {K : Act → Prop} (hi : ops[i]? = some o) (h : qOpR P ops w0 i K a) : ∃ v, YieldsR P ops w0 o v a ∧ K (a.put o.dst v) := by
  unfold qOpR at h
  simp only [hi] at h
  by_cases hw : Region.wanted o (yielded ops a.tmps) = true
  · simp only [hw, if_true] at h
    obtain ⟨v, h1, h2⟩ := h
    exact ⟨v, .inl ⟨hw, h1⟩, h2⟩
  · simp only [hw] at h
    exact ⟨undef, .inr ⟨by simpa using hw, rfl⟩, h⟩

theorem YieldsR.keep {oi oj : Oper} {v : Value} {a : Act} (hap : oi.apart ops oj = true) (hsi : ∀ cs b, oi.op ≠ .select cs b) (hy : YieldsR P ops w0 oi v a) (u : Value) : YieldsR P ops w0 oi v (a.put oj.dst u) := by
  obtain ⟨_, _, h3⟩ := Oper.apart_spec hap
  exact hy.of_same (execOp_put oi hsi a oj.dst u h3) (wanted_put oi a oj.dst u h3)

theorem qOpR_put {j : Nat} {oi oj : Oper} {v : Value} (hj : ops[j]? = some oj) (hap : oi.apart ops oj = true)
    (hsi : ∀ cs b, oi.op ≠ .select cs b) (hsj : ∀ cs b, oj.op ≠ .select cs b) {K : Act → Prop} {a : Act}
    (hy : YieldsR P ops w0 oi v a) (h : qOpR P ops w0 j K (a.put oi.dst v)) :
    qOpR P ops w0 j (fun a' => YieldsR P ops w0 oi v a' ∧ K (a'.put oi.dst v)) a := by
  obtain ⟨h1, h2, h3⟩ := Oper.apart_spec hap
  unfold qOpR at *
  simp only [hj] at *
  rw [wanted_put oj a oi.dst v h1] at h
  split
  · rename_i hw
    simp only [hw, if_true] at h
    obtain ⟨u, hu, hn⟩ := h
    refine ⟨u, fun p => ?_, hy.keep hap hsi u, by rw [← Act.put_comm a v u h2]; exact hn⟩
    have := hu p
    unfold Oper.quietAt at *
    rwa [execOp_put oj hsj a oi.dst v h1] at this
  · rename_i hw
    simp only [hw] at h
    exact ⟨hy.keep hap hsi _, by rw [← Act.put_comm a v undef h2]; exact h⟩

theorem wpOp_of_qOpR {i : Nat} {a : Act} {K : Act → Prop} {K' : Act → World → Prop} {Q' : Exit → Act → World → Prop} {w : World} (hw : After w0 w) (h : ∀ a w', After w w' → K a → K' a w') (hh : qOpR P ops w0 i K a) : wpOp P ops Q' i K' a w := by
  unfold qOpR at hh
  unfold wpOp
  split
  · rename_i ho; simp only [ho] at hh; exact h _ _ (After.refl _) hh
  · rename_i o ho
    simp only [ho] at hh
    split
    · rename_i hwn
      simp only [hwn, if_true] at hh
      refine .inl ?_
      obtain ⟨v, h1, h2⟩ := hh
      obtain ⟨p, rfl⟩ := after_gw hw
      have h3 := h1 p
      unfold Oper.quietAt at h3
      unfold Oper.wp
      generalize (execOp a.eval o).run P (gw w0 p) = r at *
      cases r with
      | ok n w' =>
        cases n <;> simp only [Oper.quietUpon] at h3 <;> simp only [Oper.upon]
        case value u =>
          obtain ⟨e1, e2⟩ := h3
          rw [e1, e2]
          exact h _ _ (After.refl _) h2
        case skip =>
          obtain ⟨e1, e2⟩ := h3
          rw [e1, ← e2]
          exact h _ _ (After.refl _) h2
        case enter f args =>
          obtain ⟨e1, hc⟩ := h3
          rw [e1]
          exact hc.mono fun e w'' ⟨he, hw''⟩ => by subst he; exact h _ _ hw'' h2
      | halt x w' => simp only [Oper.quietUpon] at h3
    · rename_i hwn; simp only [hwn] at hh; exact h _ _ (After.refl _) hh

/-! ### fresh blocks -/
def isAl (o : Oper) : Bool := match o.op with | .alloc _ => true | _ => false
def isAlAt (ops : Array Oper) (i : Nat) : Bool := match ops[i]? with | some o => isAl o | none => false
def ptr (p : Nat) : Value := .pointer (some ⟨p, 0, none⟩)
def upd (s : Nat → Nat) (i p : Nat) : Nat → Nat := fun k => if k = i then p else s k
theorem upd_comm (s : Nat → Nat) {i j : Nat} (p q : Nat) (h : i ≠ j) : upd (upd s i p) j q = upd (upd s j q) i p := by
  funext k
  unfold upd
  by_cases h1 : k = i <;> by_cases h2 : k = j <;> simp [h1, h2] <;> omega

def stepA (P : Program) (ops : Array Oper) (w0 : World) (i : Nat) (K : (Nat → Nat) → Act → Prop) (s : Nat → Nat) (a : Act) : Prop :=
  match ops[i]? with
  | none => False
  | some o => if isAl o = true then ∀ p, K (upd s i p) (a.put o.dst (ptr p)) else qOpR P ops w0 i (K s) a

def wpAnyA (P : Program) (md : Region.Mode) (ops : Array Oper) (w0 : World) (n : Nat) (L : Array Bool → (Nat → Nat) → Act → Prop) : Nat → Array Bool → (Nat → Nat) → Act → Prop
  | 0, listed, s, a => L listed s a
  | f + 1, listed, s, a => Region.ready md ops listed ≠ [] ∧ ∀ i ∈ Region.ready md ops listed, i < n ∧ stepA P ops w0 i (wpAnyA P md ops w0 n L f (listed.setIfInBounds i true)) s a

/-- what is known of the fresh blocks that have come -/
structure FreshIn (w0 : World) (J : List (Nat × Obj)) (listed : Array Bool) (s : Nat → Nat) (w : World) : Prop where
  after : After w0 w
  blk : ∀ x ∈ J, listed.getD x.1 false = true → w.heap[s x.1]? = some x.2 ∧ w0.heap.size ≤ s x.1
  ne : ∀ x ∈ J, ∀ y ∈ J, x.1 ≠ y.1 → listed.getD x.1 false = true → listed.getD y.1 false = true → s x.1 ≠ s y.1

theorem some_lt {h : Array Obj} {k : Nat} {o : Obj} (e : h[k]? = some o) : k < h.size := (Array.getElem?_eq_some_iff.1 e).1

theorem getD_set_false {listed : Array Bool} {i j : Nat} (h : (listed.setIfInBounds i true).getD j false = true) (hne : i ≠ j) : listed.getD j false = true := by
  rwa [getD_set_ne false hne] at h

theorem FreshIn.go {J : List (Nat × Obj)} {listed : Array Bool} {s : Nat → Nat} {w w' : World} (h : FreshIn w0 J listed s w) (k : After w w') {i : Nat} (hi : ∀ x ∈ J, x.1 ≠ i) : FreshIn w0 J (listed.setIfInBounds i true) s w' := by
  refine ⟨h.after.trans k, fun x hx hl => ?_, fun x hx y hy hne hl hl' => h.ne x hx y hy hne (getD_set_false hl (hi x hx).symm) (getD_set_false hl' (hi y hy).symm)⟩
  obtain ⟨h1, h2⟩ := h.blk x hx (getD_set_false hl (hi x hx).symm)
  exact ⟨(k.block _ (some_lt h1)).trans h1, h2⟩

theorem FreshIn.lay {J : List (Nat × Obj)} {listed : Array Bool} {s : Nat → Nat} {w : World} {i : Nat} {o : Obj} (h : FreshIn w0 J listed s w) (hJ : (J.map (·.1)).Nodup) (hi : (i, o) ∈ J) (hun : listed.getD i false = false) :
    FreshIn w0 J (listed.setIfInBounds i true) (upd s i w.heap.size) (w.alloc o) := by
  have key : ∀ x ∈ J, x.1 = i → x = (i, o) := by
    intro x hx e
    clear h hun
    induction J with
    | nil => cases hx
    | cons a l ih =>
      rw [List.map_cons, List.nodup_cons] at hJ
      rcases List.mem_cons.1 hx with h1 | h1 <;> rcases List.mem_cons.1 hi with h2 | h2
      · rw [h1, h2]
      · exact absurd (List.mem_map.2 ⟨_, h2, by rw [← h1, e]⟩) hJ.1
      · exact absurd (List.mem_map.2 ⟨_, h1, by rw [← h2, e]⟩) hJ.1
      · exact ih hJ.2 h2 h1
  refine ⟨h.after.alloc o, fun x hx hl => ?_, fun x hx y hy hne hl hl' => ?_⟩
  · by_cases e : x.1 = i
    · rw [key x hx e]
      simp only [upd, if_true]
      exact ⟨heap_alloc_new w _, h.after.size⟩
    · obtain ⟨h1, h2⟩ := h.blk x hx (getD_set_false hl (fun e' => e e'.symm))
      simp only [upd, if_neg e]
      exact ⟨(Below.heap_alloc w o _ (some_lt h1)).trans h1, h2⟩
  · by_cases e : x.1 = i
    · have e' : y.1 ≠ i := fun e' => hne (e.trans e'.symm)
      obtain ⟨h1, _⟩ := h.blk y hy (getD_set_false hl' (fun e2 => e' e2.symm))
      have := some_lt h1
      simp only [upd, if_pos e, if_neg e']
      omega
    · by_cases e' : y.1 = i
      · obtain ⟨h1, _⟩ := h.blk x hx (getD_set_false hl (fun e2 => e e2.symm))
        have := some_lt h1
        simp only [upd, if_neg e, if_pos e']
        omega
      · simp only [upd, if_neg e, if_neg e']
        exact h.ne x hx y hy hne (getD_set_false hl (fun e2 => e e2.symm)) (getD_set_false hl' (fun e2 => e' e2.symm))

/-- what is asked of the operations that lay the fresh blocks -/
def Lays (P : Program) (ops : Array Oper) (n : Nat) (J : List (Nat × Obj)) : Prop :=
  (J.map (·.1)).Nodup ∧ (∀ i, i < n → isAlAt ops i = true → ∃ o, (i, o) ∈ J) ∧
  ∀ x ∈ J, ∃ o, ops[x.1]? = some o ∧ isAl o = true ∧ (∀ f, Region.wanted o f = true) ∧ ∀ (r : Operand → Value) (w : World), (execOp r o).run P w = .ok (.value (ptr w.heap.size)) (w.alloc x.2)

theorem wpAny_of_headA {n g : Nat} {J : List (Nat × Obj)} {L : Array Bool → (Nat → Nat) → Act → Prop} {Q' : Exit → Act → World → Prop} (hlay : Lays P ops n J)
    (hL : ∀ listed s a, L listed s a → ∀ w, FreshIn w0 J listed s w → wpAny P md ops Q' g listed a w) :
    ∀ (f : Nat) (listed : Array Bool) (s : Nat → Nat) (a : Act), wpAnyA P md ops w0 n L f listed s a → ∀ w, FreshIn w0 J listed s w → wpAny P md ops Q' (f + g) listed a w
  | 0, listed, s, a, h, w, hw => by rw [Nat.zero_add]; exact hL _ _ _ h w hw
  | f + 1, listed, s, a, h, w, hw => by
    rw [show f + 1 + g = (f + g) + 1 by omega]
    refine ⟨fun h0 => absurd h0 h.1, fun i hi => ?_⟩
    obtain ⟨hin, hst⟩ := h.2 i hi
    obtain ⟨hun, oi, hoi, _⟩ := mem_ready.1 hi
    unfold stepA at hst
    simp only [hoi] at hst
    by_cases hal : isAl oi = true
    · simp only [hal, if_true] at hst
      obtain ⟨ob, hob⟩ := hlay.2.1 i hin (by unfold isAlAt; simp only [hoi]; exact hal)
      obtain ⟨o', ho', _, hwn, hrun⟩ := hlay.2.2 _ hob
      have e : o' = oi := Option.some.inj (ho'.symm.trans hoi)
      subst e
      unfold wpOp
      simp only [hoi, hwn, if_true]
      refine .inl ?_
      unfold Oper.wp
      rw [hrun]
      exact wpAny_of_headA hlay hL f _ _ _ (hst w.heap.size) _ (hw.lay hlay.1 hob (getD_both hun))
    · simp only [hal] at hst
      have hnj : ∀ x ∈ J, x.1 ≠ i := fun x hx e => by
        obtain ⟨o', ho', hal', _⟩ := hlay.2.2 x hx
        rw [e, hoi] at ho'
        cases ho'
        exact hal hal'
      exact wpOp_of_qOpR hw.after (fun a' w' hw' h' => wpAny_of_headA hlay hL f _ _ a' h' w' (hw.go hw' hnj)) hst

theorem wpAnyA_first {n i : Nat} {oi : Oper} {v : Value} {L : Array Bool → (Nat → Nat) → Act → Prop} (hi : ops[i]? = some oi) (hal : isAl oi = false) (hsel : ∀ (j : Nat) (o : Oper) cs b, ops[j]? = some o → o.op ≠ .select cs b)
    (hs : Region.sinkB md ops n = true) (hc : Region.chainB md ops n = true) (hn : n < ops.size) (hin : i < n)
    (hdone : ∀ listed s a, L listed s a → ∀ j ∈ Region.ready md ops listed, n ≤ j) :
    ∀ (f : Nat) (listed : Array Bool) (s : Nat → Nat) (a : Act), HeadInv md ops n listed →
      (∀ j oj, ops[j]? = some oj → j ≠ i → listed.getD j true = false → (∀ e ∈ oj.after, Region.binds md e = true → e.on ≠ i) → oi.apart ops oj = true) →
      i ∈ Region.ready md ops listed → YieldsR P ops w0 oi v a →
      wpAnyA P md ops w0 n L f (listed.setIfInBounds i true) s (a.put oi.dst v) → wpAnyA P md ops w0 n L (f + 1) listed s a := by
  have mine : ∀ {K : (Nat → Nat) → Act → Prop} {s : Nat → Nat} {a : Act}, YieldsR P ops w0 oi v a → K s (a.put oi.dst v) → stepA P ops w0 i K s a := fun hy hk => by
    unfold stepA
    simp only [hi, hal]
    exact hy.qOpR hi hk
  intro f
  induction f with
  | zero =>
    intro listed s a inv _ hr hy H
    have hun := (mem_ready.1 hr).1
    refine ⟨fun h => (by rw [h] at hr; cases hr), fun j hj => ?_⟩
    have hjn : j < n := by
      rcases Nat.lt_or_ge j n with h | h
      · exact h
      · exact absurd hj (tail_waits hs hc hn inv _ i rfl hin hun j h)
    refine ⟨hjn, ?_⟩
    by_cases hji : j = i
    · subst hji; exact mine hy H
    · have := hdone _ _ _ H j (ready_mono hj hji)
      omega
  | succ f ih =>
    intro listed s a inv hfree hr hy H
    have hun := (mem_ready.1 hr).1
    refine ⟨fun h => (by rw [h] at hr; cases hr), fun j hj => ?_⟩
    have hjn : j < n := by
      rcases Nat.lt_or_ge j n with h | h
      · exact h
      · exact absurd hj (tail_waits hs hc hn inv _ i rfl hin hun j h)
    refine ⟨hjn, ?_⟩
    by_cases hji : j = i
    · subst hji; exact mine hy H
    · have h1 := (H.2 j (ready_mono hj hji)).2
      obtain ⟨hjun, oj, hoj, hall⟩ := mem_ready.1 hj
      have hnot : ∀ e ∈ oj.after, Region.binds md e = true → e.on ≠ i := fun e he hb heq => by
        have h1 := hall e he hb
        rw [heq, getD_both hun] at h1
        cases h1
      have hap := hfree j oj hoj hji hjun hnot
      have hfree' : ∀ k ok, ops[k]? = some ok → k ≠ i → (listed.setIfInBounds j true).getD k true = false →
          (∀ e ∈ ok.after, Region.binds md e = true → e.on ≠ i) → oi.apart ops ok = true := fun k ok hk hki hun hno => by
        refine hfree k ok hk hki ?_ hno
        by_cases hjk : j = k
        · subst hjk; exact hjun
        · rw [getD_set_ne true hjk] at hun; exact hun
      unfold stepA at h1 ⊢
      simp only [hoj] at h1 ⊢
      by_cases halj : isAl oj = true
      · simp only [halj, if_true] at h1 ⊢
        intro p
        refine ih (listed.setIfInBounds j true) _ _ (inv.set hj hjn) hfree' (ready_mono hr (Ne.symm hji)) (hy.keep hap (fun cs b => hsel i oi cs b hi) _) ?_
        rw [Array.setIfInBounds_comm _ _ hji, ← Act.put_comm a v _ (Oper.apart_spec hap).2.1]
        exact h1 p
      · simp only [halj] at h1 ⊢
        have h2 := qOpR_put hoj hap (fun cs b => hsel i oi cs b hi) (fun cs b => hsel j oj cs b hoj) hy h1
        refine qOpR_mono (fun a' h3 => ih (listed.setIfInBounds j true) _ a' (inv.set hj hjn) hfree' (ready_mono hr (Ne.symm hji)) h3.1 ?_) h2
        rw [Array.setIfInBounds_comm _ _ hji]
        exact h3.2

/-- nothing is left of the head but fresh blocks -/
def onlyAl (ops : Array Oper) (n : Nat) (listed : Array Bool) : Bool := (List.range n).all fun k => listed.getD k true || isAlAt ops k

theorem onlyAl_set {n j : Nat} {listed : Array Bool} (h : onlyAl ops n listed = true) : onlyAl ops n (listed.setIfInBounds j true) = true := by
  unfold onlyAl at h ⊢
  rw [List.all_eq_true] at h ⊢
  intro k hk
  have := h k hk
  simp only [Bool.or_eq_true] at this ⊢
  rcases this with h' | h'
  · left
    by_cases e : j = k
    · subst e
      rcases Nat.lt_or_ge j listed.size with h2 | h2
      · simp [h2]
      · simp [Array.getElem?_eq_none (show (listed.setIfInBounds j true).size ≤ j by simpa using h2)]
    · rw [getD_set_ne true e]; exact h'
  · exact .inr h'

theorem wpAnyA_firstAl {n i : Nat} {oi : Oper} {L : Array Bool → (Nat → Nat) → Act → Prop} (hi : ops[i]? = some oi) (hal : isAl oi = true)
    (hs : Region.sinkB md ops n = true) (hc : Region.chainB md ops n = true) (hn : n < ops.size) (hin : i < n)
    (hdone : ∀ listed s a, L listed s a → ∀ j ∈ Region.ready md ops listed, n ≤ j) :
    ∀ (f : Nat) (listed : Array Bool) (s : Nat → Nat) (a : Act), HeadInv md ops n listed → onlyAl ops n listed = true →
      (∀ j oj, ops[j]? = some oj → j ≠ i → listed.getD j true = false → (∀ e ∈ oj.after, Region.binds md e = true → e.on ≠ i) → oi.apart ops oj = true) →
      i ∈ Region.ready md ops listed →
      (∀ p, wpAnyA P md ops w0 n L f (listed.setIfInBounds i true) (upd s i p) (a.put oi.dst (ptr p))) → wpAnyA P md ops w0 n L (f + 1) listed s a := by
  have mine : ∀ {K : (Nat → Nat) → Act → Prop} {s : Nat → Nat} {a : Act}, (∀ p, K (upd s i p) (a.put oi.dst (ptr p))) → stepA P ops w0 i K s a := fun hk => by
    unfold stepA
    simp only [hi, hal, if_true]
    exact hk
  intro f
  induction f with
  | zero =>
    intro listed s a inv _ _ hr H
    have hun := (mem_ready.1 hr).1
    refine ⟨fun h => (by rw [h] at hr; cases hr), fun j hj => ?_⟩
    have hjn : j < n := by
      rcases Nat.lt_or_ge j n with h | h
      · exact h
      · exact absurd hj (tail_waits hs hc hn inv _ i rfl hin hun j h)
    refine ⟨hjn, ?_⟩
    by_cases hji : j = i
    · subst hji; exact mine H
    · have := hdone _ _ _ (H 0) j (ready_mono hj hji)
      omega
  | succ f ih =>
    intro listed s a inv hoa hfree hr H
    have hun := (mem_ready.1 hr).1
    refine ⟨fun h => (by rw [h] at hr; cases hr), fun j hj => ?_⟩
    have hjn : j < n := by
      rcases Nat.lt_or_ge j n with h | h
      · exact h
      · exact absurd hj (tail_waits hs hc hn inv _ i rfl hin hun j h)
    refine ⟨hjn, ?_⟩
    by_cases hji : j = i
    · subst hji; exact mine H
    · have h1 := fun p => ((H p).2 j (ready_mono hj hji)).2
      obtain ⟨hjun, oj, hoj, hall⟩ := mem_ready.1 hj
      have hnot : ∀ e ∈ oj.after, Region.binds md e = true → e.on ≠ i := fun e he hb heq => by
        have h1 := hall e he hb
        rw [heq, getD_both hun] at h1
        cases h1
      have hap := hfree j oj hoj hji hjun hnot
      have hfree' : ∀ k ok, ops[k]? = some ok → k ≠ i → (listed.setIfInBounds j true).getD k true = false →
          (∀ e ∈ ok.after, Region.binds md e = true → e.on ≠ i) → oi.apart ops ok = true := fun k ok hk hki hun hno => by
        refine hfree k ok hk hki ?_ hno
        by_cases hjk : j = k
        · subst hjk; exact hjun
        · rw [getD_set_ne true hjk] at hun; exact hun
      have halj : isAl oj = true := by
        have := List.all_eq_true.1 hoa j (List.mem_range.2 hjn)
        rw [hjun] at this
        simpa [isAlAt, hoj] using this
      unfold stepA at h1 ⊢
      simp only [hoj, halj, if_true] at h1 ⊢
      intro q
      refine ih (listed.setIfInBounds j true) _ _ (inv.set hj hjn) (onlyAl_set hoa) hfree' (ready_mono hr (Ne.symm hji)) (fun p => ?_)
      rw [Array.setIfInBounds_comm _ _ hji, ← Act.put_comm a (ptr p) _ (Oper.apart_spec hap).2.1, ← upd_comm s p q (Ne.symm hji)]
      exact h1 p q

/-! ### the order of the text -/
def wpFresh (P : Program) (ops : Array Oper) (w0 : World) (Q : Act → Prop) : List Oper → Act → Prop
  | [], a => Q a
  | o :: rest, a => if isAl o = true then wpFresh P ops w0 Q rest a else if Region.wanted o (yielded ops a.tmps) then quietR P o a w0 (wpFresh P ops w0 Q rest) else wpFresh P ops w0 Q rest (a.put o.dst undef)

def thenAl (ops : Array Oper) (Q : (Nat → Nat) → Act → Prop) : List (Nat × Obj) → (Nat → Nat) → Act → Prop
  | [], s, a => Q s a
  | x :: J, s, a => ∀ p, thenAl ops Q J (upd s x.1 p) (a.put ((ops[x.1]?).bind (·.dst)) (ptr p))

def lexAl (md : Region.Mode) (ops : Array Oper) (n : Nat) (E : Array Bool → Bool) : List (Nat × Obj) → Array Bool → Bool
  | [], listed => E listed
  | x :: J, listed => (Region.ready md ops listed).contains x.1 && Region.free md ops listed x.1 && decide (x.1 < n) && isAlAt ops x.1 && onlyAl ops n listed && lexAl md ops n E J (listed.setIfInBounds x.1 true)

def lexHeadF (md : Region.Mode) (ops : Array Oper) (E : Array Bool → Bool) : Nat → Nat → Array Bool → Bool
  | 0, _, listed => E listed
  | f + 1, k, listed => if isAlAt ops k then lexHeadF md ops E f (k + 1) listed else (Region.ready md ops listed).contains k && Region.free md ops listed k && lexHeadF md ops E f (k + 1) (listed.setIfInBounds k true)

def endB (md : Region.Mode) (ops : Array Oper) (g n : Nat) (J : List (Nat × Obj)) (listed : Array Bool) : Bool := Region.seqB md ops g n listed && J.all fun x => listed.getD x.1 false

def freshTailB (md : Region.Mode) (ops : Array Oper) (n : Nat) (J : List (Nat × Obj)) : Bool :=
  Region.noSelect ops && decide (n < ops.size) && Region.sinkB md ops n && Region.chainB md ops n && decide ((ops.toList.take n).countP (fun o => !isAl o) + J.length = n) &&
  lexHeadF md ops (fun listed => lexAl md ops n (endB md ops (ops.size - n) n J) J listed) n 0 (Array.replicate ops.size false)

variable {n g : Nat} {J0 : List (Nat × Obj)} {Lq : (Nat → Nat) → Act → Prop}

def LEnd (md : Region.Mode) (ops : Array Oper) (g n : Nat) (J : List (Nat × Obj)) (Lq : (Nat → Nat) → Act → Prop) (listed : Array Bool) (s : Nat → Nat) (a : Act) : Prop := endB md ops g n J listed = true ∧ Lq s a

theorem lEnd_done (listed : Array Bool) (s : Nat → Nat) (a : Act) (h : LEnd md ops g n J0 Lq listed s a) : ∀ j ∈ Region.ready md ops listed, n ≤ j := by
  have := h.1
  simp only [endB, Bool.and_eq_true] at this
  exact seqB_ready this.1

theorem wpAnyA_al (hs : Region.sinkB md ops n = true) (hc : Region.chainB md ops n = true) (hn : n < ops.size) :
    ∀ (J : List (Nat × Obj)) (listed : Array Bool) (s : Nat → Nat) (a : Act), HeadInv md ops n listed → lexAl md ops n (endB md ops g n J0) J listed = true → thenAl ops Lq J s a →
    wpAnyA P md ops w0 n (LEnd md ops g n J0 Lq) J.length listed s a
  | [], listed, s, a, _, hB, h => ⟨hB, h⟩
  | x :: J, listed, s, a, inv, hB, h => by
    simp only [lexAl, Bool.and_eq_true, decide_eq_true_eq] at hB
    obtain ⟨⟨⟨⟨⟨hr, hf⟩, hxn⟩, hal⟩, hoa⟩, hB'⟩ := hB
    have hr' : x.1 ∈ Region.ready md ops listed := by simpa using hr
    obtain ⟨_, ox, hox, _⟩ := mem_ready.1 hr'
    have hal' : isAl ox = true := by simpa [isAlAt, hox] using hal
    refine wpAnyA_firstAl hox hal' hs hc hn hxn lEnd_done J.length listed s a inv hoa (Region.free_spec hox hf) hr' (fun p => ?_)
    refine wpAnyA_al hs hc hn J _ _ _ (inv.set hr' hxn) hB' ?_
    have := h p
    simpa [hox] using this

theorem wpAnyA_lex (hsel : Region.noSelect ops = true) (hs : Region.sinkB md ops n = true) (hc : Region.chainB md ops n = true) (hn : n < ops.size) (s : Nat → Nat) :
    ∀ (l : List Oper) (k : Nat) (listed : Array Bool) (a : Act), (∀ j, j < l.length → l[j]? = ops[k + j]?) → k + l.length = n → HeadInv md ops n listed →
    lexHeadF md ops (fun listed => lexAl md ops n (endB md ops g n J0) J0 listed) l.length k listed = true → wpFresh P ops w0 (thenAl ops Lq J0 s) l a →
    wpAnyA P md ops w0 n (LEnd md ops g n J0 Lq) (l.countP (fun o => !isAl o) + J0.length) listed s a
  | [], k, listed, a, _, _, inv, hB, h => by
    rw [List.countP_nil, Nat.zero_add]
    exact wpAnyA_al hs hc hn J0 listed s a inv hB h
  | o :: l, k, listed, a, hl, hk, inv, hB, h => by
    have h0 : ops[k]? = some o := by simpa using (hl 0 (by simp)).symm
    have hkn : k < n := by simp only [List.length_cons] at hk; omega
    have hl' : ∀ j, j < l.length → l[j]? = ops[k + 1 + j]? := fun j hj => by have := hl (j + 1) (by simp; omega); simpa [Nat.add_assoc, Nat.add_comm 1 j] using this
    have hk' : k + 1 + l.length = n := by simp only [List.length_cons] at hk; omega
    have hat : isAlAt ops k = isAl o := by simp [isAlAt, h0]
    by_cases hal : isAl o = true
    · rw [List.countP_cons_of_neg (by simp [hal])]
      simp only [List.length_cons, lexHeadF, hat, hal, if_true] at hB
      unfold wpFresh at h
      simp only [hal, if_true] at h
      exact wpAnyA_lex hsel hs hc hn s l (k + 1) listed a hl' hk' inv hB h
    · have hal' : isAl o = false := by simpa using hal
      rw [List.countP_cons_of_pos (by simp [hal'])]
      simp only [List.length_cons, lexHeadF, hat, hal', Bool.false_eq_true, if_false, Bool.and_eq_true] at hB
      obtain ⟨⟨hr, hf⟩, hB'⟩ := hB
      have hr' : k ∈ Region.ready md ops listed := by simpa using hr
      have hst : qOpR P ops w0 k (wpFresh P ops w0 (thenAl ops Lq J0 s) l) a := by
        unfold wpFresh at h
        simp only [hal', Bool.false_eq_true, if_false] at h
        unfold qOpR; simp only [h0]; exact h
      obtain ⟨v, hy, hK⟩ := yieldsR_of_qOpR h0 hst
      rw [show l.countP (fun o => !isAl o) + 1 + J0.length = l.countP (fun o => !isAl o) + J0.length + 1 by omega]
      exact wpAnyA_first h0 hal' (Region.noSelect_spec hsel) hs hc hn hkn lEnd_done _ listed s a inv (Region.free_spec h0 hf) hr' hy
        (wpAnyA_lex hsel hs hc hn s l (k + 1) _ _ hl' hk' (inv.set hr' hkn) hB' hK)

/-- what is known behind the head: of w', and of where the fresh blocks of J lie -/
def Laid (w w' : World) (J : List (Nat × Obj)) (s : Nat → Nat) : Prop :=
  After w w' ∧ (∀ x ∈ J, w'.heap[s x.1]? = some x.2 ∧ w.heap.size ≤ s x.1) ∧ ∀ x ∈ J, ∀ y ∈ J, x.1 ≠ y.1 → s x.1 ≠ s y.1

theorem wp_region_fresh {id : Nat} {Q : Exit → Act → World → Prop} {a : Act} {w : World} {l : List Oper} (n : Nat) (J : List (Nat × Obj)) (hm : P.follows .mixedOrders = true) (hB : freshTailB .any l.toArray n J = true) (hlay : Lays P l.toArray n J)
    (h : wpFresh P l.toArray w (thenAl l.toArray (fun s a' => ∀ w', Laid w w' J s → wpList P l.toArray Q (l.drop n) a' w') J (fun _ => 0)) (l.take n) a) : (Code.region id l.toArray true).wp P Q a w := by
  simp only [freshTailB, Bool.and_eq_true, decide_eq_true_eq] at hB
  obtain ⟨⟨⟨⟨⟨hsel, hn⟩, hs⟩, hc⟩, hcnt⟩, hlex⟩ := hB
  have hn' : n < l.length := by simpa using hn
  have htl : (l.take n).length = n := by simp; omega
  have hdl : (l.drop n).length = l.toArray.size - n := by simp
  have inv0 : HeadInv .any l.toArray n (Array.replicate l.toArray.size false) :=
    ⟨by simp, fun j oj _ hl => (by rw [getD_replicate_false] at hl; cases hl), fun t _ ht => getD_in (by simpa using ht) (getD_replicate_false _ _)⟩
  have H := wpAnyA_lex (md := .any) (g := l.toArray.size - n) (J0 := J) hsel hs hc hn (fun _ => 0) (l.take n) 0 _ a (fun j hj => by
    have hj' : j < n := by rw [htl] at hj; exact hj
    simp [hj']) (by simpa using htl) inv0 (by rw [htl]; exact hlex) h
  refine wp_region_any hm ?_
  have := wpAny_of_headA (Q' := Q) (g := l.toArray.size - n) hlay (fun listed s a' hL w' hw' => by
    obtain ⟨hE, hq⟩ := hL
    simp only [endB, Bool.and_eq_true, List.all_eq_true] at hE
    have hlaid : Laid w w' J s := ⟨hw'.after, fun x hx => hw'.blk x hx (hE.2 x hx), fun x hx y hy hne => hw'.ne x hx y hy hne (hE.2 x hx) (hE.2 y hy)⟩
    have := wpAny_of_seq (md := .any) (Q' := Q) (l.drop n) n listed a' w' (fun j => by simp [List.getElem?_drop]) (by rw [hdl]; exact hE.1) (hq w' hlaid)
    rwa [hdl] at this) _ _ _ _ H { w with drawn := w.drawn + 1 } ⟨(After.refl w).drew, fun x _ hl => (by rw [getD_replicate_false] at hl; cases hl), fun x _ _ _ _ hl => (by rw [getD_replicate_false] at hl; cases hl)⟩
  have hcnt' : (l.take n).countP (fun o => !isAl o) + J.length = n := hcnt
  rw [hcnt', show n + (l.toArray.size - n) = l.toArray.size by omega] at this
  exact this

theorem wpFresh_nil {Q : Act → Prop} {a : Act} (h : Q a) : wpFresh P ops w0 Q [] a := h
theorem wpFresh_al {Q : Act → Prop} {a : Act} {o : Oper} {rest : List Oper} (hal : isAl o = true) (h : wpFresh P ops w0 Q rest a) : wpFresh P ops w0 Q (o :: rest) a := by
  unfold wpFresh; rw [if_pos hal]; exact h
theorem wpFresh_step {Q : Act → Prop} {a : Act} {o : Oper} {rest : List Oper} (hal : isAl o = false)
    (h : ∀ K : Act → Prop, (∀ a, wpFresh P ops w0 Q rest a → K a) → if Region.wanted o (yielded ops a.tmps) then quietR P o a w0 K else K (a.put o.dst undef)) : wpFresh P ops w0 Q (o :: rest) a := by
  have hal' : ¬ isAl o = true := by simp [hal]
  unfold wpFresh; rw [if_neg hal']; exact h _ (fun _ h => h)
end

attribute [go_sem] quietR gw ptr
attribute [irreducible] wpFresh

theorem Laid.one {w w' : World} {i p : Nat} {o : Obj} {s : Nat → Nat} (h : Laid w w' [(i, o)] (upd s i p)) : After w w' ∧ w'.heap[p]? = some o ∧ w.heap.size ≤ p := by
  obtain ⟨h1, h2, _⟩ := h
  have := h2 (i, o) (by simp)
  simp only [upd, if_true] at this
  exact ⟨h1, this⟩
theorem Laid.two {w w' : World} {i j p q : Nat} {o o' : Obj} {s : Nat → Nat} (h : Laid w w' [(i, o), (j, o')] (upd (upd s i p) j q)) (hij : i ≠ j) :
    After w w' ∧ (w'.heap[p]? = some o ∧ w.heap.size ≤ p) ∧ (w'.heap[q]? = some o' ∧ w.heap.size ≤ q) ∧ p ≠ q := by
  obtain ⟨h1, h2, h3⟩ := h
  have a := h2 (i, o) (by simp)
  have b := h2 (j, o') (by simp)
  have c := h3 (i, o) (by simp) (j, o') (by simp) hij
  simp only [upd, if_true, if_neg hij] at a b c
  exact ⟨h1, a, b, c⟩
theorem Laid.three {w w' : World} {i j k p q r : Nat} {o o' o2 : Obj} {s : Nat → Nat} (h : Laid w w' [(i, o), (j, o'), (k, o2)] (upd (upd (upd s i p) j q) k r)) (hij : i ≠ j) (hik : i ≠ k) (hjk : j ≠ k) :
    After w w' ∧ (w'.heap[p]? = some o ∧ w.heap.size ≤ p) ∧ (w'.heap[q]? = some o' ∧ w.heap.size ≤ q) ∧ (w'.heap[r]? = some o2 ∧ w.heap.size ≤ r) ∧ p ≠ q ∧ p ≠ r ∧ q ≠ r := by
  obtain ⟨h1, h2, h3⟩ := h
  have a := h2 (i, o) (by simp)
  have b := h2 (j, o') (by simp)
  have c := h2 (k, o2) (by simp)
  have d := h3 (i, o) (by simp) (j, o') (by simp) hij
  have e := h3 (i, o) (by simp) (k, o2) (by simp) hik
  have f := h3 (j, o') (by simp) (k, o2) (by simp) hjk
  simp only [upd, if_true, if_neg hij, if_neg hik, if_neg hjk] at a b c d e f
  exact ⟨h1, a, b, c, d, e, f⟩

/-- one fresh block: what is asked of its operation -/
theorem lays_one {P : Program} {ops : Array Oper} {n i : Nat} {o : Obj} {op : Oper} (h1 : ops[i]? = some op) (h2 : isAl op = true) (h3 : ∀ f, Region.wanted op f = true)
    (h4 : ∀ (r : Operand → Value) (w : World), (execOp r op).run P w = .ok (.value (ptr w.heap.size)) (w.alloc o)) (h5 : ((List.range n).all fun k => !isAlAt ops k || k == i) = true) : Lays P ops n [(i, o)] := by
  refine ⟨by simp, fun k hk hal => ?_, fun x hx => ?_⟩
  · have := List.all_eq_true.1 h5 k (List.mem_range.2 hk)
    rw [hal] at this
    simp at this
    exact ⟨o, by simp [this]⟩
  · simp at hx; subst hx
    exact ⟨op, h1, h2, h3, h4⟩
theorem lays_cons {P : Program} {ops : Array Oper} {i : Nat} {o : Obj} {op : Oper} {J : List (Nat × Obj)} (h1 : ops[i]? = some op) (h2 : isAl op = true) (h3 : ∀ f, Region.wanted op f = true)
    (h4 : ∀ (r : Operand → Value) (w : World), (execOp r op).run P w = .ok (.value (ptr w.heap.size)) (w.alloc o)) (hJ : ∀ x ∈ J, ∃ o, ops[x.1]? = some o ∧ isAl o = true ∧ (∀ f, Region.wanted o f = true) ∧ ∀ (r : Operand → Value) (w : World), (execOp r o).run P w = .ok (.value (ptr w.heap.size)) (w.alloc x.2)) :
    ∀ x ∈ (i, o) :: J, ∃ o, ops[x.1]? = some o ∧ isAl o = true ∧ (∀ f, Region.wanted o f = true) ∧ ∀ (r : Operand → Value) (w : World), (execOp r o).run P w = .ok (.value (ptr w.heap.size)) (w.alloc x.2) := by
  intro x hx
  rcases List.mem_cons.1 hx with rfl | hx
  · exact ⟨op, h1, h2, h3, h4⟩
  · exact hJ x hx
theorem lays_of {P : Program} {ops : Array Oper} {n : Nat} {J : List (Nat × Obj)} (hn : (J.map (·.1)).Nodup) (h5 : ((List.range n).all fun k => !isAlAt ops k || (J.map (·.1)).contains k) = true)
    (hJ : ∀ x ∈ J, ∃ o, ops[x.1]? = some o ∧ isAl o = true ∧ (∀ f, Region.wanted o f = true) ∧ ∀ (r : Operand → Value) (w : World), (execOp r o).run P w = .ok (.value (ptr w.heap.size)) (w.alloc x.2)) : Lays P ops n J := by
  refine ⟨hn, fun k hk hal => ?_, hJ⟩
  have := List.all_eq_true.1 h5 k (List.mem_range.2 hk)
  rw [hal] at this
  simp at this
  exact this
end Go.Proofs.Ytefbeekjoafijaa
