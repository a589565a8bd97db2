/- (*List).cut: a shelf begins at a row. -/
import Derived.Test.YtefbeekjoafijaaInsert
import Derived.Test.YtefbeekjoafijaaBand
namespace Go.Proofs.Ytefbeekjoafijaa
open Go.RowKit Go.Sort

/-- nothing has turned but blocks of S, and what is new -/
structure Only (w w' : World) (S : Nat → Prop) : Prop where
  os : w'.os = w.os
  tape : w'.tape = w.tape
  output : w'.output = w.output
  size : w.heap.size ≤ w'.heap.size
  drawn : w.drawn ≤ w'.drawn
  block : ∀ k, k < w.heap.size → ¬ S k → w'.heap[k]? = w.heap[k]?

theorem After.only {w w' : World} (h : After w w') (S : Nat → Prop) : Only w w' S := ⟨h.os, h.tape, h.output, h.size, h.drawn, fun k hk _ => h.block k hk⟩
theorem Only.after {w w' : World} (h : Only w w' (fun _ => False)) : After w w' := ⟨⟨h.os, h.tape, h.output, h.size, fun k hk => h.block k hk (fun h => h)⟩, h.drawn⟩
theorem Only.refl (w : World) (S : Nat → Prop) : Only w w S := (After.refl w).only S
theorem Only.trans {a b c : World} {S T : Nat → Prop} (h : Only a b S) (k : Only b c T) (hT : ∀ i, i < a.heap.size → T i → S i) : Only a c S :=
  ⟨k.os.trans h.os, k.tape.trans h.tape, k.output.trans h.output, Nat.le_trans h.size k.size, Nat.le_trans h.drawn k.drawn,
    fun i hi hs => (k.block i (Nat.lt_of_lt_of_le hi h.size) (fun ht => hs (hT i hi ht))).trans (h.block i hi hs)⟩
theorem Only.then_after {a b c : World} {S : Nat → Prop} (h : Only a b S) (k : After b c) : Only a c S := h.trans (k.only S) (fun _ _ h => h)
theorem Only.mono {a b : World} {S T : Nat → Prop} (h : Only a b S) (hT : ∀ i, S i → T i) : Only a b T := ⟨h.os, h.tape, h.output, h.size, h.drawn, fun i hi hs => h.block i hi (fun h => hs (hT i h))⟩
theorem Only.of_grownBy {w w' : World} {g : Nat} (h : w.grownBy w' (some g)) (hd : w.drawn ≤ w'.drawn) : Only w w' (· = g) :=
  ⟨h.os, h.tape, h.output, h.size, hd, fun k hk hs => h.block k hk (fun e => hs (by injection e))⟩
theorem Only.setCell (w : World) (p : Addr) (u : Value) : Only w (w.setCell p u) (· = p.block) :=
  ⟨rfl, rfl, rfl, by simp [World.setCell], Nat.le_refl _, fun k _ hs => Below.heap_setCell w p u k hs⟩
theorem Blk.only {w w' : World} {g : Nat} {t : TypeId} {cs : Array Value} {S : Nat → Prop} (h : Blk w g t cs) (k : Only w w' S) (hs : ¬ S g) : Blk w' g t cs := h.same (k.block g h.lt hs)
theorem ownsRow_only {w w' : World} {base g n cap size : Nat} {e : TypeId} {xs : List Value} {S : Nat → Prop} (h : w.ownsRow base e size (.slice (some ⟨g, 0, none⟩) n cap) n xs) (k : Only w w' S) (hs : ¬ S g) : w'.ownsRow base e size (.slice (some ⟨g, 0, none⟩) n cap) n xs := by
  obtain ⟨cur, a, b, c, d, e', f, l⟩ := ownsRow_get h
  exact ownsRow_mk a ((k.block g (Array.getElem?_eq_some_iff.1 b).1 hs).trans b) c d e' f l

/-! ### plain -/
def lowS (y : Int) : List Sh → Nat
  | [] => 0
  | s :: r => if s.top < y then lowS y r + 1 else 0

theorem lowS_le (y : Int) : ∀ xs : List Sh, lowS y xs ≤ xs.length
  | [] => Nat.le_refl _
  | s :: r => by
    unfold lowS
    split
    · have := lowS_le y r; simp; omega
    · omega

theorem lowS_iff {y : Int} : ∀ {xs : List Sh}, Rising xs → ∀ i s, xs[i]? = some s → (lowS y xs ≤ i ↔ y ≤ s.top)
  | [], _, i, s, h => by simp at h
  | a :: r, hr, i, s, h => by
    have hr' := List.pairwise_cons.1 hr
    unfold lowS
    split
    · rename_i hlt
      cases i with
      | zero => simp at h; subst h; simp; omega
      | succ i =>
        have := lowS_iff (y := y) hr'.2 i s (by simpa using h)
        rw [← this]; omega
    · rename_i hge
      cases i with
      | zero => simp at h; subst h; simp; omega
      | succ i =>
        have hs : s ∈ r := List.mem_of_getElem? (by simpa using h)
        have := hr'.1 s hs
        simp; omega

theorem cutS_eq (y : Int) : ∀ {xs : List Sh}, Rising xs → ∀ s, xs.head? = some s → s.top ≤ y → ∃ t, xs[findS y xs]? = some t ∧ t.top ≤ y ∧
    ((t.top = y ∧ cutS y xs = xs ∧ lowS y xs = findS y xs) ∨ (t.top < y ∧ cutS y xs = xs.take (findS y xs + 1) ++ [⟨y, t.left, t.right⟩] ++ xs.drop (findS y xs + 1) ∧ lowS y xs = findS y xs + 1))
  | [], _, s, h, _ => by simp at h
  | [a], _, s, h, hle => by
    simp at h; subst h
    refine ⟨a, rfl, hle, ?_⟩
    by_cases he : a.top = y
    · left
      refine ⟨he, ?_, ?_⟩
      · unfold cutS; rw [if_pos (by omega)]
      · unfold lowS; rw [if_neg (by omega)]; rfl
    · right
      refine ⟨by omega, ?_, ?_⟩
      · unfold cutS; rw [if_neg (by omega)]; rfl
      · unfold lowS lowS; rw [if_pos (by omega)]; rfl
  | a :: b :: r, hr, s, h, hle => by
    simp at h; subst h
    have hr' := List.pairwise_cons.1 hr
    unfold findS
    by_cases hb : b.top ≤ y
    · obtain ⟨t, h1, h2, h3⟩ := cutS_eq y hr'.2 b rfl hb
      rw [if_pos hb]
      refine ⟨t, by simpa using h1, h2, ?_⟩
      have hab : a.top < b.top := hr'.1 b (by simp)
      rcases h3 with ⟨e1, e2, e3⟩ | ⟨e1, e2, e3⟩
      · left
        refine ⟨e1, ?_, ?_⟩
        · unfold cutS; rw [if_neg (by omega), if_neg (by omega), e2]
        · unfold lowS; rw [if_pos (by omega), e3]
      · right
        refine ⟨e1, ?_, ?_⟩
        · unfold cutS; rw [if_neg (by omega), if_neg (by omega), e2]; simp
        · unfold lowS; rw [if_pos (by omega), e3]
    · rw [if_neg hb]
      refine ⟨a, rfl, hle, ?_⟩
      by_cases he : a.top = y
      · left
        refine ⟨he, ?_, ?_⟩
        · unfold cutS; rw [if_pos (by omega)]
        · unfold lowS; rw [if_neg (by omega)]
      · right
        refine ⟨by omega, ?_, ?_⟩
        · unfold cutS; rw [if_neg (by omega), if_pos (by omega)]; rfl
        · unfold lowS lowS; rw [if_pos (by omega), if_neg (by omega)]

theorem rising_cutS {y : Int} : ∀ {xs : List Sh}, Rising xs → Rising (cutS y xs)
  | [], h => h
  | [a], h => by
    unfold cutS
    split
    · exact h
    · rename_i hn
      unfold Rising
      simp; omega
  | a :: b :: r, h => by
    have h' := List.pairwise_cons.1 h
    unfold cutS
    split
    · exact h
    · split
      · rename_i hn hlt
        refine List.pairwise_cons.2 ⟨fun t ht => ?_, List.pairwise_cons.2 ⟨fun t ht => ?_, h'.2⟩⟩
        · rcases List.mem_cons.1 ht with rfl | ht
          · dsimp only; omega
          · exact h'.1 t ht
        · dsimp only
          rcases List.mem_cons.1 ht with rfl | ht
          · exact hlt
          · have := (List.pairwise_cons.1 h'.2).1 t ht; omega
      · rename_i hn hge
        refine List.pairwise_cons.2 ⟨fun t ht => ?_, rising_cutS h'.2⟩
        have key : ∀ (q : List Sh), ∀ t ∈ cutS y q, t.top = y ∨ t ∈ q := by
          intro q
          induction q with
          | nil => intro t ht; simp [cutS] at ht
          | cons c q ih =>
            intro t ht
            cases q with
            | nil =>
              unfold cutS at ht
              split at ht
              · exact .inr ht
              · simp at ht; rcases ht with rfl | rfl
                · simp
                · simp
            | cons d q =>
              unfold cutS at ht
              split at ht
              · exact .inr ht
              · split at ht
                · simp at ht; rcases ht with rfl | rfl | rfl | ht <;> simp [*]
                · rcases List.mem_cons.1 ht with rfl | ht
                  · simp
                  · rcases ih t ht with h | h
                    · exact .inl h
                    · exact .inr (List.mem_cons_of_mem _ h)
        rcases key _ t ht with h1 | h1
        · have := h'.1 b (by simp); omega
        · exact h'.1 t h1

theorem cutS_len (y : Int) : ∀ xs : List Sh, (cutS y xs).length ≤ xs.length + 1
  | [] => by simp [cutS]
  | [a] => by unfold cutS; split <;> simp
  | a :: b :: r => by
    unfold cutS
    split
    · simp
    · split
      · simp
      · have := cutS_len y (b :: r); simp at this ⊢; omega
theorem cutS_ne {y : Int} {xs : List Sh} (h : xs ≠ []) : cutS y xs ≠ [] := by
  cases xs with
  | nil => exact absurd rfl h
  | cons a r => obtain ⟨q, e⟩ := cut_head y a r; rw [e]; simp

/-! ### the walk -/
def CutPost (w : World) (base L g : Nat) (ys : List Sh) (r : Nat) (e : Ending) (w' : World) : Prop :=
  e = .returned (.int .i64 r) ∧ ∃ g' cap', ListAt w' base L g' cap' ys ∧ Only w w' (fun k => k = L ∨ k = g) ∧ (g' = g ∨ w.heap.size ≤ g')

set_option maxRecDepth 100000 in
set_option maxHeartbeats 2000000 in
theorem insert_any {w : World} {base g cap : Nat} {xs : List Sh} (h : w.ownsRow base 32 3 (.slice (some ⟨g, 0, none⟩) xs.length cap) xs.length (shRow xs)) (hn : xs.length ≤ 1000000) (hbase : base ≤ w.heap.size)
    (s : Sh) (vb : Nat) (hv : Blk w vb 32 #[.int .i64 s.top, .int .i64 s.left, .int .i64 s.right]) (hne : vb ≠ g) (i : Nat) (hi : i ≤ xs.length) :
    Calls Try.prog 100 #[.slice (some ⟨g, 0, none⟩) xs.length cap, .int .i64 i, .slice (some ⟨vb, 0, none⟩) 1 1] w (InsPost w base g (xs.take i ++ [s] ++ xs.drop i)) := by
  rcases Nat.lt_or_ge i xs.length with hlt | hge
  · rcases Nat.lt_or_ge cap (xs.length + 1) with hc | hc
    · exact insert_grow h hn hbase s vb hv i hlt hc
    · exact insert_room h hn s vb hv hne i hlt hc
  · have e : i = xs.length := by omega
    subst e
    rw [List.take_of_length_le (Nat.le_refl _), List.drop_of_length_le (Nat.le_refl _), List.append_nil]
    exact insert_end h hn hbase s vb hv

theorem insert_at {w : World} {base g cap : Nat} {xs : List Sh} (h : w.ownsRow base 32 3 (.slice (some ⟨g, 0, none⟩) xs.length cap) xs.length (shRow xs)) (hn : xs.length ≤ 1000000) (hbase : base ≤ w.heap.size)
    (s : Sh) (vb : Nat) (hv : Blk w vb 32 #[.int .i64 s.top, .int .i64 s.left, .int .i64 s.right]) (hne : vb ≠ g) (i : Nat) (hi : i ≤ xs.length) (j : Int) (hj : j = i) :
    Calls Try.prog 100 #[.slice (some ⟨g, 0, none⟩) xs.length cap, .int .i64 j, .slice (some ⟨vb, 0, none⟩) 1 1] w (InsPost w base g (xs.take i ++ [s] ++ xs.drop i)) := by
  subst hj
  exact insert_any h hn hbase s vb hv hne i hi

set_option maxHeartbeats 4000000 in
theorem cut_any {w : World} {base L g cap : Nat} {xs : List Sh} (h : ListAt w base L g cap xs) (hlen : xs.length < 1000000) (y : Int) (s0 : Sh) (hs0 : xs.head? = some s0) (hy : s0.top ≤ y) :
    Calls Try.prog 87 #[.pointer (some ⟨L, 0, none⟩), .int .i64 y] w (CutPost w base L g (cutS y xs) (lowS y xs)) := by
  obtain ⟨t, ht, hty, hcut⟩ := cutS_eq y h.rising s0 hs0 hy
  have hfl := findS_lt y h.ne
  have H := Lib.hid h
  have hL := h.L_lt
  have hg := h.g_lt
  have hLg := h.ne_g
  have hcap := h.cap_le
  clear h
  have hc0 := H.out.obj.cell
  go_enter Try.func87, Try.ntmps87
  go_wp2_with fail
  refine (find_any H.out y).mono ?_
  rintro e w1 ⟨rfl, hw1⟩
  have H1 := Lib.hid (H.out.after hw1)
  have hc1 := H1.out.obj.cell
  obtain ⟨r0, r1, r2⟩ := H1.out.rowAt.2 _ t ht
  have Ht := Lib.hid ht
  clear hc0 ht
  rcases hcut with ⟨e1, e2, e3⟩ | ⟨e1, e2, e3⟩
  · have hteq : (t.top == y) = true := by rw [beq_iff_eq]; exact e1
    have E1 := Lib.hid e1; have E2 := Lib.hid e2; have E3 := Lib.hid e3
    clear e1 e2 e3
    go_wp2
    go_ret
    refine ⟨ret_int (by rw [E3.out]), g, cap, ?_, hw1.only _, .inl rfl⟩
    rw [E2.out]; exact H1.out
  · have hteq : (t.top == y) = false := by rw [beq_eq_false_iff_ne]; omega
    have E2 := Lib.hid e2; have E3 := Lib.hid e3
    clear e2 e3
    go_wp2_with fail
    refine name_world (fun W2 hW2 => ?_)
    obtain ⟨B, hB⟩ : ∃ B, B = w1.heap.size := ⟨_, rfl⟩
    have b2 : Blk W2 B 32 #[.int .i64 y, .int .i64 t.left, .int .i64 t.right] := by rw [hW2, hB]; exact Blk.new _ _ _
    have A2 : After w1 W2 := by rw [hW2]; exact (After.refl _).alloc _
    have H2 := Lib.hid (H1.out.after A2)
    have hBg : B ≠ g := by have := H1.out.g_lt; omega
    have hBL : B ≠ L := by have := H1.out.L_lt; omega
    rw [← hB]
    clear hW2 hB
    have k0 := H2.out.obj.cell 0
    have k1 := b2.cell 0
    have k2 := b2.cell 1
    have k3 := b2.cell 2
    simp at k0 k1 k2 k3
    have hbase2 : base ≤ W2.heap.size + 1 := by have := H2.out.L_lt; have := H2.out.low; omega
    have hne2 : W2.heap.size ≠ g := by have := H2.out.g_lt; omega
    have hi2 : findS y xs + 1 ≤ xs.length := by omega
    have hj2 := Lib.hid (show ((findS y xs : Int) + 1) = ((findS y xs + 1 : Nat) : Int) by omega)
    have hw1' : IntKind.i64.wrap ((findS y xs : Int) + 1) = (findS y xs : Int) + 1 := by rw [IntKind.wrap_i64]; have := H.out.small; omega
    have r2 : ∀ o, ((W2.alloc o).drew).ownsRow base 32 3 (.slice (some ⟨g, 0, none⟩) xs.length cap) xs.length (shRow xs) := fun o => H2.out.row.alloc o
    have v2 : ∀ c, Blk ((W2.alloc (.cells c 32)).drew) W2.heap.size 32 c := fun c => Blk.new W2 _ _
    have n2 : ∀ o, base ≤ ((W2.alloc o).drew).heap.size := fun o => by
      show base ≤ (W2.alloc o).heap.size
      rw [World.size_alloc]; exact hbase2
    have R2 := Lib.hid r2
    have V2 := Lib.hid v2
    have N2 := Lib.hid n2
    clear r2 v2 n2
    have o2 : ∀ (w4 : World) c, ((W2.alloc (.cells c 32)).drew).grownBy w4 (some g) → Blk w4 L 105 #[.slice (some ⟨g, 0, none⟩) xs.length cap] ∧ Blk w4 B 32 #[.int .i64 y, .int .i64 t.left, .int .i64 t.right] := fun w4 c hg4 =>
      ⟨(H2.out.obj.alloc _).same (hg4.block L (by show L < (W2.alloc _).heap.size; rw [World.size_alloc]; have := H2.out.L_lt; omega) (by intro e; injection e with e; exact hLg e)),
       (b2.alloc _).same (hg4.block B (by show B < (W2.alloc _).heap.size; rw [World.size_alloc]; have := b2.lt; omega) (by intro e; injection e with e; exact hBg e))⟩
    have O2 := Lib.hid o2
    clear o2
    have ka := fun o => (H2.out.obj.alloc o).cell 0
    simp at ka
    go_region_law (go_simp; go_at_call 100; refine (insert_at (R2.out _) H.out.small (N2.out _) ⟨y, t.left, t.right⟩ W2.heap.size (V2.out _) hne2 (findS y xs + 1) hi2 _ hj2.out).mono ?_; rintro e w4 ⟨g', cap', rfl, hown, hgrow, hat, hdr⟩; have o4 := O2.out _ _ hgrow; have q0 := o4.1.cell 0; have f4 := o4.1.frozen 0; simp at q0)
    all_goals
      go_wp2
      go_ret
      have hlen2 : (xs.take (findS y xs + 1) ++ [({ top := y, left := t.left, right := t.right } : Sh)] ++ xs.drop (findS y xs + 1)).length = findS y xs + 1 + (xs.length - (findS y xs + 1) + 1) := by simp; omega
      refine ⟨ret_int (by rw [E3.out]; omega), g', cap', ?_, ?_, ?_⟩
      · rw [E2.out]
        rw [hlen2] at hown
        have hg'L : g' ≠ L := by
          rintro rfl
          obtain ⟨_, _, hc, _⟩ := ownsRow_get hown
          have := o4.1
          unfold Blk at this
          rw [hc] at this
          injection this with this
          injection this with _ this
          cases this
        refine ⟨?_, ?_, H.out.low, by simp, ?_, by rw [hlen2]; omega⟩
        · rw [hlen2]
          have := o4.1.set_ 0 (.slice (some ⟨g', 0, none⟩) (findS y xs + 1 + (xs.length - (findS y xs + 1) + 1)) cap')
          simpa using this
        · rw [hlen2]
          exact ownsRow_only hown (Only.setCell _ _ _) hg'L
        · have := rising_cutS (y := y) H.out.rising
          rw [E2.out] at this
          exact this
      · have p1 : Only w W2 (fun k => k = L ∨ k = g) := (hw1.trans A2).only _
        have p2 : Only W2 ((W2.alloc (.cells #[.int .i64 y, .int .i64 t.left, .int .i64 t.right] 32)).drew) (fun k => k = L ∨ k = g) := ((After.refl W2).alloc _).drew.only _
        have p3 := Only.of_grownBy hgrow hdr
        exact ((p1.trans p2 (fun _ _ h => h)).trans p3 (fun _ _ h => .inr h)).trans (Only.setCell _ _ _) (fun _ _ h => .inl h)
      · rcases hat with h | h
        · exact .inl h
        · right
          have h' : W2.heap.size + 1 ≤ g' := by
            refine Nat.le_trans ?_ h
            show _ ≤ (W2.alloc _).heap.size
            rw [World.size_alloc]; exact Nat.le_refl _
          have := hw1.size; have := A2.size; omega
end Go.Proofs.Ytefbeekjoafijaa
