/- A region that draws its order, with calls that write, one behind the other: what XFresh says, with a class of worlds for each call that has been. -/
import Derived.Test.YtefbeekjoafijaaFresh
namespace Go.Proofs.Ytefbeekjoafijaa
open Go.RowKit Go.Sort
set_option linter.unusedVariables false
set_option linter.unusedSimpArgs false

section
variable {P : Program} {ops : Array Oper} {md : Region.Mode} {C : Nat → World → Prop} {Kp : World → World → Prop}

/-- quiet, however many of the writing calls have been -/
def YieldsF (P : Program) (ops : Array Oper) (C : Nat → World → Prop) (Kp : World → World → Prop) (o : Oper) (v : Value) (a : Act) : Prop :=
  (Region.wanted o (yielded ops a.tmps) = true ∧ ∀ k w, C k w → o.quietAt P a (fun w' => C k w' ∧ Kp w w') w v) ∨ (Region.wanted o (yielded ops a.tmps) = false ∧ v = undef)
/-- a writing call, when k of them have been -/
def YieldsC (P : Program) (ops : Array Oper) (C : Nat → World → Prop) (Kp : World → World → Prop) (k : Nat) (o : Oper) (v : Value) (a : Act) : Prop :=
  Region.wanted o (yielded ops a.tmps) = true ∧ ∀ w, C k w → ∃ f args, (execOp a.eval o).run P w = .ok (.enter f args) w ∧ Calls P f args w (fun e w' => e = .returned v ∧ C (k + 1) w' ∧ Kp w w')

theorem YieldsF.of_same {o : Oper} {v : Value} {a a' : Act} (hy : YieldsF P ops C Kp o v a) (he : execOp a'.eval o = execOp a.eval o)
    (hw : Region.wanted o (yielded ops a'.tmps) = Region.wanted o (yielded ops a.tmps)) : YieldsF P ops C Kp o v a' := by
  unfold YieldsF Oper.quietAt at *
  rw [he, hw]
  exact hy
theorem YieldsC.of_same {k : Nat} {o : Oper} {v : Value} {a a' : Act} (hy : YieldsC P ops C Kp k o v a) (he : execOp a'.eval o = execOp a.eval o)
    (hw : Region.wanted o (yielded ops a'.tmps) = Region.wanted o (yielded ops a.tmps)) : YieldsC P ops C Kp k o v a' := by
  unfold YieldsC at *
  rw [he, hw]
  exact hy
theorem YieldsF.keep {oi oj : Oper} {v : Value} {a : Act} (hap : oi.apart ops oj = true) (hsi : ∀ cs b, oi.op ≠ .select cs b) (hy : YieldsF P ops C Kp oi v a) (u : Value) : YieldsF P ops C Kp oi v (a.put oj.dst u) := by
  obtain ⟨_, _, h3⟩ := Oper.apart_spec hap
  exact hy.of_same (execOp_put oi hsi a oj.dst u h3) (wanted_put oi a oj.dst u h3)
theorem YieldsC.keep {k : Nat} {oi oj : Oper} {v : Value} {a : Act} (hap : oi.apart ops oj = true) (hsi : ∀ cs b, oi.op ≠ .select cs b) (hy : YieldsC P ops C Kp k oi v a) (u : Value) : YieldsC P ops C Kp k oi v (a.put oj.dst u) := by
  obtain ⟨_, _, h3⟩ := Oper.apart_spec hap
  exact hy.of_same (execOp_put oi hsi a oj.dst u h3) (wanted_put oi a oj.dst u h3)
/-- .. and the other way: what another one yields is the same before this one's value is laid -/
theorem YieldsF.back {oi oj : Oper} {v u : Value} {a : Act} (hap : oi.apart ops oj = true) (hsj : ∀ cs b, oj.op ≠ .select cs b) (hy : YieldsF P ops C Kp oj u (a.put oi.dst v)) : YieldsF P ops C Kp oj u a := by
  obtain ⟨h1, _, _⟩ := Oper.apart_spec hap
  exact hy.of_same (execOp_put oj hsj a oi.dst v h1).symm (wanted_put oj a oi.dst v h1).symm
theorem YieldsC.back {k : Nat} {oi oj : Oper} {v u : Value} {a : Act} (hap : oi.apart ops oj = true) (hsj : ∀ cs b, oj.op ≠ .select cs b) (hy : YieldsC P ops C Kp k oj u (a.put oi.dst v)) : YieldsC P ops C Kp k oj u a := by
  obtain ⟨h1, _, _⟩ := Oper.apart_spec hap
  exact hy.of_same (execOp_put oj hsj a oi.dst v h1).symm (wanted_put oj a oi.dst v h1).symm

abbrev Cont := Nat → (Nat → Nat) → Act → Prop

def stepC (P : Program) (ops : Array Oper) (C : Nat → World → Prop) (Kp : World → World → Prop) (Ch : List Nat) (i : Nat) (K : Cont) (k : Nat) (s : Nat → Nat) (a : Act) : Prop :=
  match ops[i]? with
  | none => False
  | some o => if isAl o = true then ∀ p, K k (upd s i p) (a.put o.dst (ptr p)) else if Ch.contains i = true then ∃ v, YieldsC P ops C Kp k o v a ∧ K (k + 1) s (a.put o.dst v) else ∃ v, YieldsF P ops C Kp o v a ∧ K k s (a.put o.dst v)

def wpAnyC (P : Program) (md : Region.Mode) (ops : Array Oper) (C : Nat → World → Prop) (Kp : World → World → Prop) (Ch : List Nat) (n : Nat) (L : Array Bool → Cont) : Nat → Array Bool → Cont
  | 0, listed, k, s, a => L listed k s a
  | f + 1, listed, k, s, a => Region.ready md ops listed ≠ [] ∧ ∀ i ∈ Region.ready md ops listed, i < n ∧ stepC P ops C Kp Ch i (wpAnyC P md ops C Kp Ch n L f (listed.setIfInBounds i true)) k s a

/-- what is known of the fresh blocks that have come -/
structure FreshC (C : Nat → World → Prop) (k : Nat) (J : List (Nat × Obj)) (b : Nat) (listed : Array Bool) (s : Nat → Nat) (w : World) : Prop where
  cls : C k w
  size : b ≤ w.heap.size
  blk : ∀ x ∈ J, listed.getD x.1 false = true → w.heap[s x.1]? = some x.2 ∧ b ≤ s x.1
  ne : ∀ x ∈ J, ∀ y ∈ J, x.1 ≠ y.1 → listed.getD x.1 false = true → listed.getD y.1 false = true → s x.1 ≠ s y.1

/-- what the classes must bear: a fresh block turns no class; what a step keeps -/
structure Classes (C : Nat → World → Prop) (Kp : World → World → Prop) (J : List (Nat × Obj)) : Prop where
  alloc : ∀ (k : Nat) (w : World), C k w → ∀ x ∈ J, C k (w.alloc x.2)
  refl : ∀ w : World, Kp w w
  size : ∀ w w' : World, Kp w w' → w.heap.size ≤ w'.heap.size
  keep : ∀ w w' : World, Kp w w' → ∀ x ∈ J, ∀ p : Nat, w.heap[p]? = some x.2 → w'.heap[p]? = some x.2

theorem FreshC.go {b k k' : Nat} {J : List (Nat × Obj)} (hc : Classes C Kp J) {listed : Array Bool} {s : Nat → Nat} {w w' : World} (h : FreshC C k J b listed s w) (hk : C k' w') (kp : Kp w w') {i : Nat} (hi : ∀ x ∈ J, x.1 ≠ i) : FreshC C k' J b (listed.setIfInBounds i true) s w' := by
  refine ⟨hk, Nat.le_trans h.size (hc.size _ _ kp), fun x hx hl => ?_, fun x hx y hy hne hl hl' => h.ne x hx y hy hne (getD_set_false hl (hi x hx).symm) (getD_set_false hl' (hi y hy).symm)⟩
  obtain ⟨h1, h2⟩ := h.blk x hx (getD_set_false hl (hi x hx).symm)
  exact ⟨hc.keep _ _ kp x hx _ h1, h2⟩

theorem key_of {J : List (Nat × Obj)} (hJ : (J.map (·.1)).Nodup) {i : Nat} {o : Obj} (hi : (i, o) ∈ J) : ∀ x ∈ J, x.1 = i → x = (i, o) := by
  intro x hx e
  induction J with
  | nil => cases hx
  | cons a l ih =>
    rw [List.map_cons, List.nodup_cons] at hJ
    rcases List.mem_cons.1 hx with h1 | h1 <;> rcases List.mem_cons.1 hi with h2 | h2
    · rw [h1, h2]
    · exact absurd (List.mem_map.2 ⟨_, h2, by rw [← h1, e]⟩) hJ.1
    · exact absurd (List.mem_map.2 ⟨_, h1, by rw [← h2, e]⟩) hJ.1
    · exact ih hJ.2 h2 h1

theorem FreshC.lay {b k : Nat} {J : List (Nat × Obj)} (hc : Classes C Kp J) {listed : Array Bool} {s : Nat → Nat} {w : World} {i : Nat} {o : Obj} (h : FreshC C k J b listed s w) (hJ : (J.map (·.1)).Nodup) (hi : (i, o) ∈ J) :
    FreshC C k J b (listed.setIfInBounds i true) (upd s i w.heap.size) (w.alloc o) := by
  refine ⟨hc.alloc _ _ h.cls _ hi, by rw [World.size_alloc]; have := h.size; omega, fun x hx hl => ?_, fun x hx y hy hne hl hl' => ?_⟩
  · by_cases e : x.1 = i
    · rw [key_of hJ hi x hx e]
      simp only [upd, if_true]
      exact ⟨heap_alloc_new w _, h.size⟩
    · obtain ⟨h1, h2⟩ := h.blk x hx (getD_set_false hl (fun e' => e e'.symm))
      simp only [upd, if_neg e]
      exact ⟨(Below.heap_alloc w o _ (some_lt h1)).trans h1, h2⟩
  · by_cases e : x.1 = i
    · have e' : y.1 ≠ i := fun e' => hne (e.trans e'.symm)
      obtain ⟨h1, _⟩ := h.blk y hy (getD_set_false hl' (fun e2 => e' e2.symm))
      have := some_lt h1
      simp only [upd, if_pos e, if_neg e']
      omega
    · by_cases e' : y.1 = i
      · obtain ⟨h1, _⟩ := h.blk x hx (getD_set_false hl (fun e2 => e e2.symm))
        have := some_lt h1
        simp only [upd, if_neg e, if_pos e']
        omega
      · simp only [upd, if_neg e, if_neg e']
        exact h.ne x hx y hy hne (getD_set_false hl (fun e2 => e e2.symm)) (getD_set_false hl' (fun e2 => e' e2.symm))

theorem wpOp_of_quiet {i : Nat} {o : Oper} {a : Act} {v : Value} {K' : Act → World → Prop} {Q' : Exit → Act → World → Prop} {w : World} {D : World → Prop} (hi : ops[i]? = some o) (hwn : Region.wanted o (yielded ops a.tmps) = true) (hrefl : D w)
    (h : o.quietAt P a D w v) (hk : ∀ w', D w' → K' (a.put o.dst v) w') : wpOp P ops Q' i K' a w := by
  unfold wpOp
  simp only [hi, hwn, if_true]
  refine .inl ?_
  unfold Oper.quietAt at h
  unfold Oper.wp
  generalize (execOp a.eval o).run P w = r at *
  cases r with
  | ok n w' =>
    cases n <;> simp only [Oper.quietUpon] at h <;> simp only [Oper.upon]
    case value u =>
      obtain ⟨e1, e2⟩ := h
      rw [e1, e2]
      exact hk _ hrefl
    case skip =>
      obtain ⟨e1, e2⟩ := h
      rw [e1, ← e2]
      exact hk _ hrefl
    case enter f args =>
      obtain ⟨e1, hc⟩ := h
      rw [e1]
      exact hc.mono fun e w'' ⟨he, hw''⟩ => by subst he; exact hk _ hw''
  | halt x w' => simp only [Oper.quietUpon] at h

theorem wpOp_of_call {i : Nat} {o : Oper} {a : Act} {v : Value} {K' : Act → World → Prop} {Q' : Exit → Act → World → Prop} {w : World} {D : World → Prop} (hi : ops[i]? = some o) (hwn : Region.wanted o (yielded ops a.tmps) = true)
    (h : ∃ f args, (execOp a.eval o).run P w = .ok (.enter f args) w ∧ Calls P f args w (fun e w' => e = .returned v ∧ D w')) (hk : ∀ w', D w' → K' (a.put o.dst v) w') : wpOp P ops Q' i K' a w := by
  obtain ⟨f, args, hr, hc⟩ := h
  unfold wpOp
  simp only [hi, hwn, if_true]
  refine .inl ?_
  unfold Oper.wp
  rw [hr]
  exact hc.mono fun e w'' ⟨he, hw''⟩ => by subst he; exact hk _ hw''

theorem wpAny_of_headC {n g b : Nat} {Ch : List Nat} {J : List (Nat × Obj)} {L : Array Bool → Cont} {Q' : Exit → Act → World → Prop} (hlay : Lays P ops n J) (hc : Classes C Kp J)
    (hL : ∀ listed k s a, L listed k s a → ∀ w, FreshC C k J b listed s w → wpAny P md ops Q' g listed a w) :
    ∀ (f : Nat) (listed : Array Bool) (k : Nat) (s : Nat → Nat) (a : Act), wpAnyC P md ops C Kp Ch n L f listed k s a → ∀ w, FreshC C k J b listed s w → wpAny P md ops Q' (f + g) listed a w
  | 0, listed, k, s, a, h, w, hw => by rw [Nat.zero_add]; exact hL _ _ _ _ h w hw
  | f + 1, listed, k, s, a, h, w, hw => by
    rw [show f + 1 + g = (f + g) + 1 by omega]
    refine ⟨fun h0 => absurd h0 h.1, fun i hi => ?_⟩
    obtain ⟨hin, hst⟩ := h.2 i hi
    obtain ⟨hun, oi, hoi, _⟩ := mem_ready.1 hi
    unfold stepC at hst
    simp only [hoi] at hst
    by_cases hal : isAl oi = true
    · simp only [hal, if_true] at hst
      obtain ⟨ob, hob⟩ := hlay.2.1 i hin (by unfold isAlAt; simp only [hoi]; exact hal)
      obtain ⟨o', ho', _, hwn, hrun⟩ := hlay.2.2 _ hob
      have e : o' = oi := Option.some.inj (ho'.symm.trans hoi)
      subst e
      unfold wpOp
      simp only [hoi, hwn, if_true]
      refine .inl ?_
      unfold Oper.wp
      rw [hrun]
      exact wpAny_of_headC hlay hc hL f _ _ _ _ (hst w.heap.size) _ (hw.lay hc hlay.1 hob)
    · have hnj : ∀ x ∈ J, x.1 ≠ i := fun x hx e => by
        obtain ⟨o', ho', hal', _⟩ := hlay.2.2 x hx
        rw [e, hoi] at ho'
        cases ho'
        exact hal hal'
      simp only [hal] at hst
      by_cases hch : Ch.contains i = true
      · simp only [hch, if_true, Bool.false_eq_true, if_false] at hst
        obtain ⟨v, ⟨hwn, hy⟩, hK⟩ := hst
        exact wpOp_of_call hoi hwn (hy w hw.cls) (fun w' hw' => wpAny_of_headC hlay hc hL f _ _ _ _ hK w' (hw.go hc hw'.1 hw'.2 hnj))
      · simp only [hch, Bool.false_eq_true, if_false] at hst
        obtain ⟨v, hy, hK⟩ := hst
        rcases hy with ⟨hwn, hy⟩ | ⟨hwn, rfl⟩
        · exact wpOp_of_quiet hoi hwn ⟨hw.cls, hc.refl _⟩ (hy k w hw.cls) (fun w' hw' => wpAny_of_headC hlay hc hL f _ _ _ _ hK w' (hw.go hc hw'.1 hw'.2 hnj))
        · unfold wpOp
          simp only [hoi, hwn, Bool.false_eq_true, if_false]
          exact wpAny_of_headC hlay hc hL f _ _ _ _ hK w (hw.go hc hw.cls (hc.refl _) hnj)

theorem wpAnyC_first {n i : Nat} {oi : Oper} {v : Value} {Ch : List Nat} {L : Array Bool → Cont} (hi : ops[i]? = some oi) (hal : isAl oi = false) (hsel : ∀ (j : Nat) (o : Oper) cs b, ops[j]? = some o → o.op ≠ .select cs b)
    (hs : Region.sinkB md ops n = true) (hc : Region.chainB md ops n = true) (hn : n < ops.size) (hin : i < n)
    (hdone : ∀ listed k s a, L listed k s a → ∀ j ∈ Region.ready md ops listed, n ≤ j) :
    ∀ (f : Nat) (listed : Array Bool) (k : Nat) (s : Nat → Nat) (a : Act), HeadInv md ops n listed →
      (Ch.contains i = true → ∀ j, Ch.contains j = true → j ≠ i → listed.getD j true = true ∨ Region.waitsFor md ops j i = true) →
      (∀ j oj, ops[j]? = some oj → j ≠ i → listed.getD j true = false → (∀ e ∈ oj.after, Region.binds md e = true → e.on ≠ i) → oi.apart ops oj = true) →
      i ∈ Region.ready md ops listed → (if Ch.contains i = true then YieldsC P ops C Kp k oi v a else YieldsF P ops C Kp oi v a) →
      wpAnyC P md ops C Kp Ch n L f (listed.setIfInBounds i true) (if Ch.contains i = true then k + 1 else k) s (a.put oi.dst v) → wpAnyC P md ops C Kp Ch n L (f + 1) listed k s a := by
  have mine : ∀ {K : Cont} {k : Nat} {s : Nat → Nat} {a : Act}, (if Ch.contains i = true then YieldsC P ops C Kp k oi v a else YieldsF P ops C Kp oi v a) → K (if Ch.contains i = true then k + 1 else k) s (a.put oi.dst v) → stepC P ops C Kp Ch i K k s a := fun {K k s a} hy hk => by
    unfold stepC
    simp only [hi, hal]
    by_cases hci : Ch.contains i = true
    · simp only [hci, if_true, Bool.false_eq_true, if_false] at hy hk ⊢
      exact ⟨v, hy, hk⟩
    · simp only [hci, Bool.false_eq_true, if_false] at hy hk ⊢
      exact ⟨v, hy, hk⟩
  intro f
  induction f with
  | zero =>
    intro listed k s a inv _ _ hr hy H
    have hun := (mem_ready.1 hr).1
    refine ⟨fun h => (by rw [h] at hr; cases hr), fun j hj => ?_⟩
    have hjn : j < n := by
      rcases Nat.lt_or_ge j n with h | h
      · exact h
      · exact absurd hj (tail_waits hs hc hn inv _ i rfl hin hun j h)
    refine ⟨hjn, ?_⟩
    by_cases hji : j = i
    · subst hji; exact mine hy H
    · have := hdone _ _ _ _ H j (ready_mono hj hji)
      omega
  | succ f ih =>
    intro listed k s a inv hex hfree hr hy H
    have hun := (mem_ready.1 hr).1
    refine ⟨fun h => (by rw [h] at hr; cases hr), fun j hj => ?_⟩
    have hjn : j < n := by
      rcases Nat.lt_or_ge j n with h | h
      · exact h
      · exact absurd hj (tail_waits hs hc hn inv _ i rfl hin hun j h)
    refine ⟨hjn, ?_⟩
    by_cases hji : j = i
    · subst hji; exact mine hy H
    · have h1 := (H.2 j (ready_mono hj hji)).2
      obtain ⟨hjun, oj, hoj, hall⟩ := mem_ready.1 hj
      have hnot : ∀ e ∈ oj.after, Region.binds md e = true → e.on ≠ i := fun e he hb heq => by
        have h1 := hall e he hb
        rw [heq, getD_both hun] at h1
        cases h1
      have hap := hfree j oj hoj hji hjun hnot
      have hfree' : ∀ k ok, ops[k]? = some ok → k ≠ i → (listed.setIfInBounds j true).getD k true = false →
          (∀ e ∈ ok.after, Region.binds md e = true → e.on ≠ i) → oi.apart ops ok = true := fun k ok hk hki hun hno => by
        refine hfree k ok hk hki ?_ hno
        by_cases hjk : j = k
        · subst hjk; exact hjun
        · rw [getD_set_ne true hjk] at hun; exact hun
      have hex' : Ch.contains i = true → ∀ j', Ch.contains j' = true → j' ≠ i → (listed.setIfInBounds j true).getD j' true = true ∨ Region.waitsFor md ops j' i = true := fun h1 j' h2 h3 => by
        rcases hex h1 j' h2 h3 with h | h
        · left
          by_cases e : j = j'
          · subst e; rw [hjun] at h; cases h
          · rw [getD_set_ne true e]; exact h
        · exact .inr h
      have keepy : ∀ u, (if Ch.contains i = true then YieldsC P ops C Kp k oi v (a.put oj.dst u) else YieldsF P ops C Kp oi v (a.put oj.dst u)) := fun u => by
        by_cases hci : Ch.contains i = true
        · simp only [hci, if_true] at hy ⊢; exact hy.keep hap (fun cs b => hsel i oi cs b hi) u
        · simp only [hci, Bool.false_eq_true, if_false] at hy ⊢; exact hy.keep hap (fun cs b => hsel i oi cs b hi) u
      unfold stepC at h1 ⊢
      simp only [hoj] at h1 ⊢
      by_cases halj : isAl oj = true
      · simp only [halj, if_true] at h1 ⊢
        intro p
        refine ih (listed.setIfInBounds j true) _ _ _ (inv.set hj hjn) hex' hfree' (ready_mono hr (Ne.symm hji)) (keepy _) ?_
        rw [Array.setIfInBounds_comm _ _ hji, ← Act.put_comm a v _ (Oper.apart_spec hap).2.1]
        exact h1 p
      · simp only [halj] at h1 ⊢
        by_cases hcj : Ch.contains j = true
        · have hci : ¬ Ch.contains i = true := fun hci => by
            rcases hex hci j hcj hji with h | h
            · rw [hjun] at h; cases h
            · obtain ⟨oj', hoj', e, he, hb, hon⟩ := Region.waitsFor_spec h
              rw [hoj] at hoj'
              cases hoj'
              exact hnot e he hb hon
          simp only [hcj, hci, if_true, Bool.false_eq_true, if_false] at h1 hy ⊢
          obtain ⟨u, hu, hK⟩ := h1
          refine ⟨u, hu.back hap (fun cs b => hsel j oj cs b hoj), ih (listed.setIfInBounds j true) _ _ _ (inv.set hj hjn) hex' hfree' (ready_mono hr (Ne.symm hji)) (by simp only [hci, Bool.false_eq_true, if_false]; exact hy.keep hap (fun cs b => hsel i oi cs b hi) u) ?_⟩
          simp only [hci, Bool.false_eq_true, if_false]
          rw [Array.setIfInBounds_comm _ _ hji, ← Act.put_comm a v _ (Oper.apart_spec hap).2.1]
          exact hK
        · simp only [hcj, Bool.false_eq_true, if_false] at h1 ⊢
          obtain ⟨u, hu, hK⟩ := h1
          refine ⟨u, hu.back hap (fun cs b => hsel j oj cs b hoj), ih (listed.setIfInBounds j true) _ _ _ (inv.set hj hjn) hex' hfree' (ready_mono hr (Ne.symm hji)) (keepy _) ?_⟩
          rw [Array.setIfInBounds_comm _ _ hji, ← Act.put_comm a v _ (Oper.apart_spec hap).2.1]
          exact hK

theorem wpAnyC_firstAl {n i : Nat} {oi : Oper} {Ch : List Nat} {L : Array Bool → Cont} (hi : ops[i]? = some oi) (hal : isAl oi = true)
    (hs : Region.sinkB md ops n = true) (hc : Region.chainB md ops n = true) (hn : n < ops.size) (hin : i < n)
    (hdone : ∀ listed k s a, L listed k s a → ∀ j ∈ Region.ready md ops listed, n ≤ j) :
    ∀ (f : Nat) (listed : Array Bool) (k : Nat) (s : Nat → Nat) (a : Act), HeadInv md ops n listed → onlyAl ops n listed = true →
      (∀ j oj, ops[j]? = some oj → j ≠ i → listed.getD j true = false → (∀ e ∈ oj.after, Region.binds md e = true → e.on ≠ i) → oi.apart ops oj = true) →
      i ∈ Region.ready md ops listed →
      (∀ p, wpAnyC P md ops C Kp Ch n L f (listed.setIfInBounds i true) k (upd s i p) (a.put oi.dst (ptr p))) → wpAnyC P md ops C Kp Ch n L (f + 1) listed k s a := by
  have mine : ∀ {K : Cont} {k : Nat} {s : Nat → Nat} {a : Act}, (∀ p, K k (upd s i p) (a.put oi.dst (ptr p))) → stepC P ops C Kp Ch i K k s a := fun hk => by
    unfold stepC
    simp only [hi, hal, if_true]
    exact hk
  intro f
  induction f with
  | zero =>
    intro listed k s a inv _ _ hr H
    have hun := (mem_ready.1 hr).1
    refine ⟨fun h => (by rw [h] at hr; cases hr), fun j hj => ?_⟩
    have hjn : j < n := by
      rcases Nat.lt_or_ge j n with h | h
      · exact h
      · exact absurd hj (tail_waits hs hc hn inv _ i rfl hin hun j h)
    refine ⟨hjn, ?_⟩
    by_cases hji : j = i
    · subst hji; exact mine H
    · have := hdone _ _ _ _ (H 0) j (ready_mono hj hji)
      omega
  | succ f ih =>
    intro listed k s a inv hoa hfree hr H
    have hun := (mem_ready.1 hr).1
    refine ⟨fun h => (by rw [h] at hr; cases hr), fun j hj => ?_⟩
    have hjn : j < n := by
      rcases Nat.lt_or_ge j n with h | h
      · exact h
      · exact absurd hj (tail_waits hs hc hn inv _ i rfl hin hun j h)
    refine ⟨hjn, ?_⟩
    by_cases hji : j = i
    · subst hji; exact mine H
    · have h1 := fun p => ((H p).2 j (ready_mono hj hji)).2
      obtain ⟨hjun, oj, hoj, hall⟩ := mem_ready.1 hj
      have hnot : ∀ e ∈ oj.after, Region.binds md e = true → e.on ≠ i := fun e he hb heq => by
        have h1 := hall e he hb
        rw [heq, getD_both hun] at h1
        cases h1
      have hap := hfree j oj hoj hji hjun hnot
      have hfree' : ∀ k ok, ops[k]? = some ok → k ≠ i → (listed.setIfInBounds j true).getD k true = false →
          (∀ e ∈ ok.after, Region.binds md e = true → e.on ≠ i) → oi.apart ops ok = true := fun k ok hk hki hun hno => by
        refine hfree k ok hk hki ?_ hno
        by_cases hjk : j = k
        · subst hjk; exact hjun
        · rw [getD_set_ne true hjk] at hun; exact hun
      have halj : isAl oj = true := by
        have := List.all_eq_true.1 hoa j (List.mem_range.2 hjn)
        rw [hjun] at this
        simpa [isAlAt, hoj] using this
      unfold stepC at h1 ⊢
      simp only [hoj, halj, if_true] at h1 ⊢
      intro q
      refine ih (listed.setIfInBounds j true) _ _ _ (inv.set hj hjn) (onlyAl_set hoa) hfree' (ready_mono hr (Ne.symm hji)) (fun p => ?_)
      rw [Array.setIfInBounds_comm _ _ hji, ← Act.put_comm a (ptr p) _ (Oper.apart_spec hap).2.1, ← upd_comm s p q (Ne.symm hji)]
      exact h1 p q

/-! ### the order of the text -/
def wpChain (P : Program) (ops : Array Oper) (C : Nat → World → Prop) (Kp : World → World → Prop) (Ch : List Nat) (Q : Nat → Act → Prop) : List Oper → Nat → Nat → Act → Prop
  | [], _, k, a => Q k a
  | o :: rest, i, k, a => if isAl o = true then wpChain P ops C Kp Ch Q rest (i + 1) k a else if Ch.contains i = true then ∃ v, YieldsC P ops C Kp k o v a ∧ wpChain P ops C Kp Ch Q rest (i + 1) (k + 1) (a.put o.dst v) else ∃ v, YieldsF P ops C Kp o v a ∧ wpChain P ops C Kp Ch Q rest (i + 1) k (a.put o.dst v)

def chB (md : Region.Mode) (ops : Array Oper) (Ch : List Nat) : Bool := Ch.all fun i => Ch.all fun j => decide (j ≤ i) || Region.waitsFor md ops j i

variable {n g : Nat} {J0 : List (Nat × Obj)} {Ch : List Nat} {Lq : Nat → (Nat → Nat) → Act → Prop}

def LEndC (md : Region.Mode) (ops : Array Oper) (g n : Nat) (J : List (Nat × Obj)) (Lq : Nat → (Nat → Nat) → Act → Prop) (listed : Array Bool) (k : Nat) (s : Nat → Nat) (a : Act) : Prop := endB md ops g n J listed = true ∧ Lq k s a
theorem lEndC_done (listed : Array Bool) (k : Nat) (s : Nat → Nat) (a : Act) (h : LEndC md ops g n J0 Lq listed k s a) : ∀ j ∈ Region.ready md ops listed, n ≤ j := by
  have := h.1
  simp only [endB, Bool.and_eq_true] at this
  exact seqB_ready this.1

theorem wpAnyC_al (hs : Region.sinkB md ops n = true) (hc : Region.chainB md ops n = true) (hn : n < ops.size) (k : Nat) :
    ∀ (J : List (Nat × Obj)) (listed : Array Bool) (s : Nat → Nat) (a : Act), HeadInv md ops n listed → lexAl md ops n (endB md ops g n J0) J listed = true → thenAl ops (Lq k) J s a →
    wpAnyC P md ops C Kp Ch n (LEndC md ops g n J0 Lq) J.length listed k s a
  | [], listed, s, a, _, hB, h => ⟨hB, h⟩
  | x :: J, listed, s, a, inv, hB, h => by
    simp only [lexAl, Bool.and_eq_true, decide_eq_true_eq] at hB
    obtain ⟨⟨⟨⟨⟨hr, hf⟩, hxn⟩, hal⟩, hoa⟩, hB'⟩ := hB
    have hr' : x.1 ∈ Region.ready md ops listed := by simpa using hr
    obtain ⟨_, ox, hox, _⟩ := mem_ready.1 hr'
    have hal' : isAl ox = true := by simpa [isAlAt, hox] using hal
    refine wpAnyC_firstAl hox hal' hs hc hn hxn lEndC_done J.length listed k s a inv hoa (Region.free_spec hox hf) hr' (fun p => ?_)
    refine wpAnyC_al hs hc hn k J _ _ _ (inv.set hr' hxn) hB' ?_
    have := h p
    simpa [hox] using this

theorem wpAnyC_lex (hsel : Region.noSelect ops = true) (hs : Region.sinkB md ops n = true) (hc : Region.chainB md ops n = true) (hn : n < ops.size) (hCh : chB md ops Ch = true) (hChn : ∀ j, Ch.contains j = true → isAlAt ops j = false) (s : Nat → Nat) :
    ∀ (l : List Oper) (m : Nat) (listed : Array Bool) (k : Nat) (a : Act), (∀ j, j < l.length → l[j]? = ops[m + j]?) → m + l.length = n → HeadInv md ops n listed → (∀ j, j < m → isAlAt ops j = false → listed.getD j true = true) →
    lexHeadF md ops (fun listed => lexAl md ops n (endB md ops g n J0) J0 listed) l.length m listed = true → wpChain P ops C Kp Ch (fun k a => thenAl ops (Lq k) J0 s a) l m k a →
    wpAnyC P md ops C Kp Ch n (LEndC md ops g n J0 Lq) (l.countP (fun o => !isAl o) + J0.length) listed k s a
  | [], m, listed, k, a, _, _, inv, _, hB, h => by
    rw [List.countP_nil, Nat.zero_add]
    exact wpAnyC_al hs hc hn k J0 listed s a inv hB h
  | o :: l, m, listed, k, a, hl, hk, inv, hdn, hB, h => by
    have h0 : ops[m]? = some o := by simpa using (hl 0 (by simp)).symm
    have hkn : m < n := by simp only [List.length_cons] at hk; omega
    have hl' : ∀ j, j < l.length → l[j]? = ops[m + 1 + j]? := fun j hj => by have := hl (j + 1) (by simp; omega); simpa [Nat.add_assoc, Nat.add_comm 1 j] using this
    have hk' : m + 1 + l.length = n := by simp only [List.length_cons] at hk; omega
    have hat : isAlAt ops m = isAl o := by simp [isAlAt, h0]
    by_cases hal : isAl o = true
    · rw [List.countP_cons_of_neg (by simp [hal])]
      simp only [List.length_cons, lexHeadF, hat, hal, if_true] at hB
      unfold wpChain at h
      simp only [hal, if_true] at h
      refine wpAnyC_lex hsel hs hc hn hCh hChn s l (m + 1) listed k a hl' hk' inv (fun j hj hja => ?_) hB h
      rcases Nat.lt_or_ge j m with h1 | h1
      · exact hdn j h1 hja
      · have : j = m := by omega
        subst this
        rw [hat, hal] at hja
        cases hja
    · have hal' : isAl o = false := by simpa using hal
      rw [List.countP_cons_of_pos (by simp [hal'])]
      simp only [List.length_cons, lexHeadF, hat, hal', Bool.false_eq_true, if_false, Bool.and_eq_true] at hB
      obtain ⟨⟨hr, hf⟩, hB'⟩ := hB
      have hr' : m ∈ Region.ready md ops listed := by simpa using hr
      have hdn' : ∀ j, j < m + 1 → isAlAt ops j = false → (listed.setIfInBounds m true).getD j true = true := fun j hj hja => by
        by_cases e : m = j
        · subst e
          rcases Nat.lt_or_ge m listed.size with h2 | h2
          · simp [h2]
          · simp [Array.getElem?_eq_none (show (listed.setIfInBounds m true).size ≤ m by simpa using h2)]
        · rw [getD_set_ne true e]; exact hdn j (by omega) hja
      rw [show l.countP (fun o => !isAl o) + 1 + J0.length = l.countP (fun o => !isAl o) + J0.length + 1 by omega]
      have hex : Ch.contains m = true → ∀ j, Ch.contains j = true → j ≠ m → listed.getD j true = true ∨ Region.waitsFor md ops j m = true := fun hcm j hcj hjm => by
        have h1 := List.all_eq_true.1 (List.all_eq_true.1 hCh m (by simpa using hcm)) j (by simpa using hcj)
        simp only [Bool.or_eq_true, decide_eq_true_eq] at h1
        rcases h1 with h1 | h1
        · left
          by_cases hja : isAlAt ops j = true
          · exact absurd hja (by rw [hChn j hcj]; simp)
          · exact hdn j (by omega) (by simpa using hja)
        · exact .inr h1
      unfold wpChain at h
      simp only [hal', Bool.false_eq_true, if_false] at h
      by_cases hcm : Ch.contains m = true
      · simp only [hcm, if_true] at h
        obtain ⟨v, hy, hK⟩ := h
        refine wpAnyC_first (v := v) h0 hal' (Region.noSelect_spec hsel) hs hc hn hkn lEndC_done _ listed k s a inv hex (Region.free_spec h0 hf) hr' (by simp only [hcm, if_true]; exact hy) ?_
        simp only [hcm, if_true]
        exact wpAnyC_lex hsel hs hc hn hCh hChn s l (m + 1) _ _ _ hl' hk' (inv.set hr' hkn) hdn' hB' hK
      · simp only [hcm, Bool.false_eq_true, if_false] at h
        obtain ⟨v, hy, hK⟩ := h
        refine wpAnyC_first (v := v) h0 hal' (Region.noSelect_spec hsel) hs hc hn hkn lEndC_done _ listed k s a inv hex (Region.free_spec h0 hf) hr' (by simp only [hcm, Bool.false_eq_true, if_false]; exact hy) ?_
        simp only [hcm, Bool.false_eq_true, if_false]
        exact wpAnyC_lex hsel hs hc hn hCh hChn s l (m + 1) _ _ _ hl' hk' (inv.set hr' hkn) hdn' hB' hK

/-- what is known behind the head -/
def LaidC (C : Nat → World → Prop) (k : Nat) (b : Nat) (w' : World) (J : List (Nat × Obj)) (s : Nat → Nat) : Prop :=
  C k w' ∧ (∀ x ∈ J, w'.heap[s x.1]? = some x.2 ∧ b ≤ s x.1) ∧ ∀ x ∈ J, ∀ y ∈ J, x.1 ≠ y.1 → s x.1 ≠ s y.1

def chainTailB (md : Region.Mode) (ops : Array Oper) (n : Nat) (J : List (Nat × Obj)) (Ch : List Nat) : Bool :=
  freshTailB md ops n J && chB md ops Ch && Ch.all fun i => !isAlAt ops i

theorem wp_region_chain {id : Nat} {Q : Exit → Act → World → Prop} {a : Act} {w : World} {l : List Oper} (n : Nat) (J : List (Nat × Obj)) (Ch : List Nat) (hm : P.follows .mixedOrders = true) (hB : chainTailB .any l.toArray n J Ch = true) (hlay : Lays P l.toArray n J)
    (hcl : Classes C Kp J) (h0 : C 0 w.drew)
    (h : wpChain P l.toArray C Kp Ch (fun k a => thenAl l.toArray (fun s a' => ∀ w', LaidC C k w.heap.size w' J s → wpList P l.toArray Q (l.drop n) a' w') J (fun _ => 0) a) (l.take n) 0 0 a) : (Code.region id l.toArray true).wp P Q a w := by
  simp only [chainTailB, freshTailB, Bool.and_eq_true, decide_eq_true_eq] at hB
  obtain ⟨⟨⟨⟨⟨⟨⟨hsel, hn⟩, hs⟩, hc⟩, hcnt⟩, hlex⟩, hCh⟩, hChn⟩ := hB
  have hn' : n < l.length := by simpa using hn
  have htl : (l.take n).length = n := by simp; omega
  have hdl : (l.drop n).length = l.toArray.size - n := by simp
  have inv0 : HeadInv .any l.toArray n (Array.replicate l.toArray.size false) :=
    ⟨by simp, fun j oj _ hl => (by rw [getD_replicate_false] at hl; cases hl), fun t _ ht => getD_in (by simpa using ht) (getD_replicate_false _ _)⟩
  have hChn' : ∀ j, Ch.contains j = true → isAlAt l.toArray j = false := fun j hj => by
    have := List.all_eq_true.1 hChn j (by simpa using hj)
    simpa using this
  have H := wpAnyC_lex (C := C) (Kp := Kp) (md := .any) (g := l.toArray.size - n) (J0 := J) (Lq := fun k s a' => ∀ w', LaidC C k w.heap.size w' J s → wpList P l.toArray Q (l.drop n) a' w') hsel hs hc hn hCh hChn' (fun _ => 0) (l.take n) 0 _ 0 a (fun j hj => by
    have hj' : j < n := by rw [htl] at hj; exact hj
    simp [hj']) (by simpa using htl) inv0 (fun j hj => absurd hj (Nat.not_lt_zero _)) (by rw [htl]; exact hlex) h
  refine wp_region_any hm ?_
  have := wpAny_of_headC (Q' := Q) (b := w.heap.size) (g := l.toArray.size - n) hlay hcl (fun listed k s a' hL w' hw' => by
    obtain ⟨hE, hq⟩ := hL
    simp only [endB, Bool.and_eq_true, List.all_eq_true] at hE
    have hlaid : LaidC C k w.heap.size w' J s := ⟨hw'.cls, fun x hx => hw'.blk x hx (hE.2 x hx), fun x hx y hy hne => hw'.ne x hx y hy hne (hE.2 x hx) (hE.2 y hy)⟩
    have := wpAny_of_seq (md := .any) (Q' := Q) (l.drop n) n listed a' w' (fun j => by simp [List.getElem?_drop]) (by rw [hdl]; exact hE.1) (hq w' hlaid)
    rwa [hdl] at this) _ _ _ _ _ H { w with drawn := w.drawn + 1 } ⟨h0, Nat.le_refl _, fun x _ hl => (by rw [getD_replicate_false] at hl; cases hl), fun x _ _ _ _ hl => (by rw [getD_replicate_false] at hl; cases hl)⟩
  have hcnt' : (l.take n).countP (fun o => !isAl o) + J.length = n := hcnt
  rw [hcnt', show n + (l.toArray.size - n) = l.toArray.size by omega] at this
  exact this

theorem wpChain_nil {Q : Nat → Act → Prop} {i k : Nat} {a : Act} (h : Q k a) : wpChain P ops C Kp Ch Q [] i k a := h
theorem wpChain_al {Q : Nat → Act → Prop} {i k : Nat} {a : Act} {o : Oper} {rest : List Oper} (hal : isAl o = true) (h : wpChain P ops C Kp Ch Q rest (i + 1) k a) : wpChain P ops C Kp Ch Q (o :: rest) i k a := by
  unfold wpChain; rw [if_pos hal]; exact h
theorem wpChain_step {Q : Nat → Act → Prop} {i k : Nat} {a : Act} {o : Oper} {rest : List Oper} (v : Value) (hal : isAl o = false) (hch : Ch.contains i = false) (hw : Region.wanted o (yielded ops a.tmps) = true)
    (hy : ∀ k w, C k w → o.quietAt P a (fun w' => C k w' ∧ Kp w w') w v) (h : wpChain P ops C Kp Ch Q rest (i + 1) k (a.put o.dst v)) : wpChain P ops C Kp Ch Q (o :: rest) i k a := by
  unfold wpChain; rw [if_neg (by simp [hal]), if_neg (by rw [hch]; simp)]; exact ⟨v, .inl ⟨hw, hy⟩, h⟩
theorem wpChain_call {Q : Nat → Act → Prop} {i k : Nat} {a : Act} {o : Oper} {rest : List Oper} (v : Value) (hal : isAl o = false) (hch : Ch.contains i = true) (hw : Region.wanted o (yielded ops a.tmps) = true)
    (hy : ∀ w, C k w → ∃ f args, (execOp a.eval o).run P w = .ok (.enter f args) w ∧ Calls P f args w (fun e w' => e = .returned v ∧ C (k + 1) w' ∧ Kp w w')) (h : wpChain P ops C Kp Ch Q rest (i + 1) (k + 1) (a.put o.dst v)) : wpChain P ops C Kp Ch Q (o :: rest) i k a := by
  unfold wpChain; rw [if_neg (by simp [hal]), if_pos hch]; exact ⟨v, ⟨hw, hy⟩, h⟩
end
attribute [irreducible] wpChain
end Go.Proofs.Ytefbeekjoafijaa
