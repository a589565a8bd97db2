/- (*List).Add: a float stands at a side. -/
import Derived.Test.YtefbeekjoafijaaCompact
namespace Go.Proofs.Ytefbeekjoafijaa
open Go.RowKit Go.Sort

/-! ### plain -/
theorem lowS_cut {t y : Int} (hty : t ≤ y) : ∀ xs : List Sh, lowS t (cutS y xs) = lowS t xs
  | [] => rfl
  | [a] => by
    unfold cutS
    split
    · rfl
    · simp only [lowS]
      split
      · rw [if_neg (by omega)]
      · rfl
  | a :: b :: r => by
    unfold cutS
    split
    · rfl
    · split
      · rename_i h1 h2
        simp only [lowS]
        split
        · rw [if_neg (by omega)]
          split
          · omega
          · rfl
        · rfl
      · have ih := lowS_cut hty (b :: r)
        rw [lowS, lowS, ih]

theorem lowS_lt_cut {t : Int} {xs : List Sh} (hr : Rising xs) (s : Sh) (hs : xs.head? = some s) (hle : s.top ≤ t) : lowS t xs < (cutS t xs).length := by
  obtain ⟨u, h1, h2, h3⟩ := cutS_eq t hr s hs hle
  have hlt := (List.getElem?_eq_some_iff.1 h1).1
  rcases h3 with ⟨_, e1, e2⟩ | ⟨_, e1, e2⟩
  · rw [e1, e2]; exact hlt
  · rw [e1, e2]; simp; omega
theorem cutS_le {t : Int} {xs : List Sh} (hr : Rising xs) (s : Sh) (hs : xs.head? = some s) (hle : s.top ≤ t) : xs.length ≤ (cutS t xs).length := by
  obtain ⟨u, h1, h2, h3⟩ := cutS_eq t hr s hs hle
  have hlt := (List.getElem?_eq_some_iff.1 h1).1
  rcases h3 with ⟨_, e1, e2⟩ | ⟨_, e1, e2⟩
  · rw [e1]; exact Nat.le_refl _
  · rw [e1]; simp; omega

theorem lowS_mono {t b : Int} (h : t ≤ b) : ∀ xs : List Sh, lowS t xs ≤ lowS b xs
  | [] => Nat.le_refl _
  | a :: r => by
    have := lowS_mono h r
    simp only [lowS]
    split
    · rw [if_pos (by omega)]; omega
    · split <;> omega

def updN (f : Flt) (xs : List Sh) (a k : Nat) : List Sh := xs.take a ++ (((xs.drop a).take k).map (putS f) ++ xs.drop (a + k))

theorem updN_zero (f : Flt) (xs : List Sh) (a : Nat) : updN f xs a 0 = xs := by simp [updN]
theorem updN_len (f : Flt) (xs : List Sh) (a k : Nat) (h : a + k ≤ xs.length) : (updN f xs a k).length = xs.length := by simp [updN]; omega
theorem updN_at (f : Flt) (xs : List Sh) (a k : Nat) (h : a + k ≤ xs.length) : (updN f xs a k)[a + k]? = xs[a + k]? := by
  unfold updN
  rw [List.getElem?_append_right (by simp; omega), List.getElem?_append_right (by simp; omega), List.getElem?_drop]
  congr 1
  simp; omega
theorem updN_succ (f : Flt) {xs : List Sh} {a k : Nat} {x : Sh} (h : xs[a + k]? = some x) : (updN f xs a k).set (a + k) (putS f x) = updN f xs a (k + 1) := by
  obtain ⟨hk, rfl⟩ := List.getElem?_eq_some_iff.1 h
  unfold updN
  rw [List.set_append_right _ _ (by simp; omega), List.set_append_right _ _ (by simp; omega)]
  have e1 : a + k - (xs.take a).length - (((xs.drop a).take k).map (putS f)).length = 0 := by simp; omega
  have e2 : (xs.drop (a + k)).set 0 (putS f xs[a + k]) = putS f xs[a + k] :: xs.drop (a + k + 1) := by
    rw [List.drop_eq_getElem_cons hk]; rfl
  have e3 : (xs.drop a).take (k + 1) = (xs.drop a).take k ++ [xs[a + k]] := by
    rw [List.take_succ_eq_append_getElem (by simp; omega)]
    simp
  rw [e1, e2, e3, List.map_append]
  simp [Nat.add_assoc]

theorem updN_all (f : Flt) {xs : List Sh} (hr : Rising xs) (htb : f.t < f.b) : updN f xs (lowS f.t xs) (lowS f.b xs - lowS f.t xs) = xs.map (putS f) := by
  have h1 := lowS_mono (Int.le_of_lt htb) xs
  have h2 := lowS_le f.b xs
  have keep : ∀ (ys : List Sh), (∀ s ∈ ys, ¬ (f.t ≤ s.top ∧ s.top < f.b)) → ys.map (putS f) = ys := by
    intro ys
    induction ys with
    | nil => intro _; rfl
    | cons a r ih =>
      intro h
      rw [List.map_cons, ih (fun s hs => h s (List.mem_cons_of_mem _ hs))]
      congr 1
      unfold putS
      rw [if_neg (h a (by simp))]
  have e : xs = xs.take (lowS f.t xs) ++ (((xs.drop (lowS f.t xs)).take (lowS f.b xs - lowS f.t xs)) ++ xs.drop (lowS f.b xs)) := by
    conv => lhs; rw [← List.take_append_drop (lowS f.t xs) xs, ← List.take_append_drop (lowS f.b xs - lowS f.t xs) (xs.drop (lowS f.t xs))]
    rw [List.drop_drop, show lowS f.t xs + (lowS f.b xs - lowS f.t xs) = lowS f.b xs by omega]
  conv => rhs; rw [e, List.map_append, List.map_append]
  unfold updN
  rw [show lowS f.t xs + (lowS f.b xs - lowS f.t xs) = lowS f.b xs by omega]
  rw [keep (xs.take _) ?_, keep (xs.drop _) ?_]
  · intro s hs
    obtain ⟨i, hi, rfl⟩ := List.getElem_of_mem hs
    rw [List.getElem_drop]
    have := (lowS_iff (y := f.b) hr (lowS f.b xs + i) _ (List.getElem?_eq_getElem (by rw [List.length_drop] at hi; omega))).1 (by omega)
    omega
  · intro s hs
    obtain ⟨i, hi, rfl⟩ := List.getElem_of_mem hs
    rw [List.length_take] at hi
    rw [List.getElem_take]
    have := (not_congr (lowS_iff (y := f.t) hr i _ (List.getElem?_eq_getElem (by omega)))).1 (by omega)
    omega

theorem rising_compactTo : ∀ (r : List Sh) (s : Sh), Rising (s :: r) → Rising (compactTo s r)
  | [], s, h => h
  | a :: r, s, h => by
    have h' := List.pairwise_cons.1 h
    have h2 := List.pairwise_cons.1 h'.2
    unfold compactTo
    split
    · exact rising_compactTo r s (List.pairwise_cons.2 ⟨fun t ht => h'.1 t (List.mem_cons_of_mem _ ht), h2.2⟩)
    · refine List.pairwise_cons.2 ⟨fun t ht => ?_, rising_compactTo r a h'.2⟩
      have sub : ∀ (r : List Sh) (a : Sh), ∀ t ∈ compactTo a r, t ∈ a :: r := by
        intro r
        induction r with
        | nil => intro a t ht; exact ht
        | cons b r ih =>
          intro a t ht
          unfold compactTo at ht
          split at ht
          · rcases List.mem_cons.1 (ih a t ht) with rfl | h
            · simp
            · simp [h]
          · rcases List.mem_cons.1 ht with rfl | ht
            · simp
            · exact List.mem_cons_of_mem _ (ih b t ht)
      exact h'.1 t (sub r a t ht)
theorem rising_compactS {xs : List Sh} (h : Rising xs) : Rising (compactS xs) := by
  cases xs with
  | nil => exact h
  | cons a r => exact rising_compactTo r a h
theorem rising_map (f : Flt) {xs : List Sh} (h : Rising xs) : Rising (xs.map (putS f)) := by
  unfold Rising at *
  rw [List.pairwise_map]
  refine h.imp ?_
  intro a b hab
  rw [putS_top, putS_top]; exact hab

/-! ### the walk -/
def AddPost (w : World) (base L g : Nat) (ys : List Sh) (e : Ending) (w' : World) : Prop :=
  e = .returned (.tuple #[]) ∧ ∃ g' cap', ListAt w' base L g' cap' ys ∧ Only w w' (fun k => k = L ∨ k = g) ∧ (g' = g ∨ w.heap.size ≤ g')

theorem set_same {α : Type} {v : α} : ∀ {l : List α} {i : Nat}, l[i]? = some v → l.set i v = l
  | [], _, h => by simp at h
  | a :: l, 0, h => by simp at h; subst h; rfl
  | a :: l, i + 1, h => by
    have := set_same (l := l) (i := i) (by simpa using h)
    simp [this]
theorem shRow_left {zs : List Sh} {i : Nat} {x : Sh} (h : zs[i]? = some x) (v : Int) : (shRow zs).set (i * 3 + 1) (.int .i64 v) = shRow (zs.set i ⟨x.top, v, x.right⟩) := by
  obtain ⟨a, b, c⟩ := shRow_at h
  have := shRow_set zs i ⟨x.top, v, x.right⟩ (List.getElem?_eq_some_iff.1 h).1
  rw [← this]
  dsimp only
  rw [set_same a, set_same (l := (shRow zs).set _ _)]
  rw [List.getElem?_set_ne (by omega)]
  exact c
theorem shRow_right {zs : List Sh} {i : Nat} {x : Sh} (h : zs[i]? = some x) (v : Int) : (shRow zs).set (i * 3 + 2) (.int .i64 v) = shRow (zs.set i ⟨x.top, x.left, v⟩) := by
  obtain ⟨a, b, c⟩ := shRow_at h
  have := shRow_set zs i ⟨x.top, x.left, v⟩ (List.getElem?_eq_some_iff.1 h).1
  rw [← this]
  dsimp only
  rw [set_same a, set_same b]

def AddRel (w : World) (base g cap : Nat) (xs : List Sh) (f : Flt) (v : Value) (wr : World) : Prop :=
  ∃ k : Nat, v = .int .i64 (k : Int) ∧ k ≤ lowS f.b xs - lowS f.t xs ∧
    wr.ownsRow base 32 3 (.slice (some ⟨g, 0, none⟩) xs.length cap) xs.length (shRow (updN f xs (lowS f.t xs) k)) ∧ Only w wr (· = g)

set_option maxRecDepth 100000 in
set_option maxHeartbeats 8000000 in
theorem add_counts {w : World} {base L g cap : Nat} {xs : List Sh} (h : ListAt w base L g cap xs) (hlen : xs.length < 900000) (side l t r b : Int) (hf1 : Nr l) (hf2 : Nr t) (hf3 : Nr r) (hf4 : Nr b) (c1 : l < r) (c2 : t < b) (c3 : side = 1 ∨ side = 2) (s0 : Sh) (hs0 : xs.head? = some s0) (hy : s0.top ≤ t) :
    Calls Try.prog 65 #[.pointer (some ⟨L, 0, none⟩), .int .i64 side, .agg #[.int .i64 l, .int .i64 t, .int .i64 r, .int .i64 b]] w (AddPost w base L g (compactS ((cutS b (cutS t xs)).map (putS ⟨side, l, t, r, b⟩)))) := by
  have hL := h.L_lt
  have hg := h.g_lt
  have H := Lib.hid h
  have Hs0 := Lib.hid hs0
  have hmix := mixed
  have hfull : fullB l t r b = true := by unfold fullB; simp [c1, c2]
  have hhead2 : (cutS t xs).head? = some s0 := by
    cases hx : xs with
    | nil => rw [hx] at hs0; cases hs0
    | cons a q =>
      rw [hx] at hs0
      simp at hs0; subst hs0
      obtain ⟨q', e⟩ := cut_head t a q
      rw [e]; rfl
  have Hh2 := Lib.hid hhead2
  have hlen2 := cutS_len t xs
  have hlen3 := cutS_len b (cutS t xs)
  have hlow := lowS_cut (Int.le_of_lt c2) (cutS t xs)
  obtain ⟨xs2, hxs2⟩ : ∃ xs2, xs2 = cutS t xs := ⟨_, rfl⟩
  obtain ⟨xs3, hxs3⟩ : ∃ xs3, xs3 = cutS b (cutS t xs) := ⟨_, rfl⟩
  clear h hs0 hhead2
  rcases c3 with rfl | rfl
  · go_enter Try.func65, Try.ntmps65
    go_wp2_with fail
    refine (rect_full _ _ _ _ _ hf1 hf2 hf3 hf4).mono ?_
    rintro e w1 ⟨rfl, hw1⟩
    rw [hfull]
    have b1 := (Blk.new w 59 #[.int .i64 l, .int .i64 t, .int .i64 r, .int .i64 b]).after hw1
    have k0 := b1.cell 0
    have k1 := b1.cell 1
    have k2 := b1.cell 2
    have k3 := b1.cell 3
    simp at k0 k1 k2 k3
    go_wp2_with fail
    have A1 : After w w1 := ((After.refl _).alloc _).trans hw1
    have H1 := H.out.after A1
    refine (cut_any H1 (by omega) t s0 Hs0.out hy).mono ?_
    rintro e w2 ⟨rfl, g2, cap2, H2, O2, G2⟩
    have hBL : w.heap.size ≠ L := by omega
    have hBg : w.heap.size ≠ g := by omega
    have b2 := b1.only O2 (by rintro (h | h) <;> contradiction)
    have hBg2 : w.heap.size ≠ g2 := by have := A1.size; have := b1.lt; rcases G2 with h | h <;> omega
    have k0 := b2.cell 0
    have k1 := b2.cell 1
    have k2 := b2.cell 2
    have k3 := b2.cell 3
    simp at k0 k1 k2 k3
    have P2 : Only w w2 (fun k => k = L ∨ k = g) := (A1.only _).trans O2 (fun _ _ h => h)
    have hlt1 : lowS t xs < xs2.length := by rw [hxs2]; exact lowS_lt_cut H.out.rising s0 Hs0.out hy
    rw [← hxs2] at H2 Hh2 hlen2 hlen3 hxs3 hlow
    have HH2 := Lib.hid H2
    have hg2 : g2 = g ∨ w.heap.size ≤ g2 := by
      rcases G2 with h | h
      · exact .inl h
      · exact .inr (Nat.le_trans A1.size h)
    have HX2 := Lib.hid hxs2
    have Hd := Lib.hid hxs3
    clear H1 H2 O2 G2 hxs2 hxs3
    go_wp2_with fail
    refine (cut_any HH2.out (by omega) b s0 Hh2.out (by omega)).mono ?_
    rintro e w3 ⟨rfl, g3, cap3, H3, O3, G3⟩
    have b3 := b2.only O3 (by rintro (h | h) <;> contradiction)
    have k0 := b3.cell 0
    have k1 := b3.cell 1
    have k2 := b3.cell 2
    have k3 := b3.cell 3
    simp at k0 k1 k2 k3
    have hxs3 := Hd.out
    rw [← hxs3] at H3 hlow
    have hb3g : w.heap.size ≠ g3 := by have := b2.lt; rcases G3 with h | h <;> omega
    have hg3 : g3 = g ∨ w.heap.size ≤ g3 := by
      have := P2.size
      rcases G3 with h | h
      · rw [h]; exact hg2
      · right; omega
    have P3 : Only w w3 (fun k => k = L ∨ k = g) := P2.trans O3 (fun i hi h => h.elim .inl (fun h => by
      have h2 : i = g2 := h
      rcases hg2 with h' | h'
      · exact .inr (h2.trans h')
      · exact absurd hi (by omega)))
    have hF : lowS t xs3 = lowS t xs := by rw [hlow, HX2.out]; exact lowS_cut (Int.le_refl _) xs
    have hT : lowS b xs3 = lowS b xs2 := by rw [hxs3]; exact lowS_cut (Int.le_refl _) xs2
    have hFT := lowS_mono (Int.le_of_lt c2) xs3
    have hTl := lowS_le b xs3
    rw [hF, hT] at hFT
    rw [hT] at hTl
    have hcap3 := H3.cap_le
    have q0 := H3.obj.cell 0
    simp at q0
    have HH3 := Lib.hid H3
    have hlt2 : lowS t xs < xs3.length := by rw [hxs3]; exact Nat.lt_of_lt_of_le hlt1 (cutS_le HH2.out.rising s0 Hh2.out (by omega))
    have hcF : ¬ cap3 = lowS t xs := by omega
    have hcT : lowS b xs2 ≤ cap3 := by omega
    have hx3l : xs3.length ≤ xs2.length + 1 := by rw [hxs3]; exact hlen3
    have HF := Lib.hid hF
    have HT := Lib.hid hT
    have HLow := Lib.hid hlow
    clear H3 G3 hxs3 hF hT hlow
    have hLg3 := HH3.out.ne_g
    go_wp2_with fail
    have hnn : lowS t xs ≤ lowS b xs2 := hFT
    have R0 := HH3.out.row
    have HR0 := Lib.hid R0
    clear R0
    go_loopw [37] (fun v wr => AddRel w3 base g3 cap3 xs3 ⟨1, l, t, r, b⟩ v wr) (fun v _ => lowS b xs2 + 1 - (intOf v).toNat)
    case atStart =>
      refine ⟨0, rfl, Nat.zero_le _, ?_, Only.refl _ _⟩
      rw [updN_zero]; exact HR0.out
    case round =>
      obtain ⟨k, rfl, hk, hown, hO⟩ := hrel
      rw [HF.out, HT.out] at hk
      rw [HF.out] at hown
      have Hown := Lib.hid hown
      clear hown
      have bk := b3.only hO hb3g
      have Lk := HH3.out.obj.only hO hLg3
      have k0 := bk.cell 0
      have k1 := bk.cell 1
      have k2 := bk.cell 2
      have k3 := bk.cell 3
      have q0 := Lk.cell 0
      simp at k0 k1 k2 k3 q0
      by_cases hkl : k < lowS b xs2 - lowS t xs
      · obtain ⟨x, hx⟩ : ∃ x, xs3[lowS t xs + k]? = some x := ⟨_, List.getElem?_eq_getElem (by omega)⟩
        have hx' := (updN_at ⟨1, l, t, r, b⟩ xs3 (lowS t xs) k (by omega)).trans hx
        obtain ⟨x0, x1, x2⟩ := rowAt_own Hown.out hx'
        have hgr : g3 < wr.heap.size := Nat.lt_of_lt_of_le HH3.out.g_lt hO.size
        have qx1 := fun n os => cell_grown (w := wr) hgr x1 n os
        have hfz := Hown.out.frozenAt
        have s1 := Hown.out.stored ((lowS t xs + k) * 3 + 1) (.int .i64 (if x.left < r then r else x.left))
        have hput : putS ⟨1, l, t, r, b⟩ x = ⟨x.top, if x.left < r then r else x.left, x.right⟩ := by
          have e1 := (lowS_iff (y := t) HH3.out.rising _ x hx).1 (by rw [HF.out]; omega)
          have e2 := (not_congr (lowS_iff (y := b) HH3.out.rising _ x hx)).1 (by rw [HT.out]; omega)
          unfold putS
          rw [if_pos ⟨e1, by dsimp only; omega⟩, if_pos rfl]
          congr 1
          dsimp only
          split <;> omega
        have hsucc := updN_succ ⟨1, l, t, r, b⟩ hx
        rw [hput] at hsucc
        have Hx := Lib.hid hx'
        have S1 := Lib.hid s1
        have Hs := Lib.hid hsucc
        have Hput := Lib.hid hput
        clear hx hx' s1 hsucc hput x0 x2
        have i1 : (0 : Int) ≤ (lowS t xs : Int) + (k : Int) := by omega
        have i2 : ((lowS t xs : Int) + (k : Int)).toNat = lowS t xs + k := by omega
        have i3 : (lowS t xs : Int) + (k : Int) < (xs3.length : Int) := by omega
        have i4 : IntKind.i64.wrap ((lowS t xs : Int) + (k : Int)) = (lowS t xs : Int) + (k : Int) := by rw [IntKind.wrap_i64]; omega
        go_wp2_with fail
        go_region_law (skip)
        all_goals
          go_wp2_with fail
          go_roundw
          case rel =>
            refine ⟨k + 1, by go_num, by rw [HF.out, HT.out]; omega, ?_, ?_⟩
            · rw [HF.out, ← Hs.out]
              rw [← shRow_left Hx.out]
              exact S1.out.1
            · exact (hO.trans (Only.setCell _ _ _) (fun _ _ h => h)).then_after (After.refl _).drew
          case measure => simp [intOf]; omega
      · have hke : k = lowS b xs2 - lowS t xs := by omega
        have hall := updN_all ⟨1, l, t, r, b⟩ HH3.out.rising c2
        dsimp only at hall
        rw [HF.out, HT.out, ← hke] at hall
        have hown' := Hown.out
        rw [hall] at hown'
        have hml : (xs3.map (putS ⟨1, l, t, r, b⟩)).length = xs3.length := by simp
        have hown2 : wr.ownsRow base 32 3 (.slice (some ⟨g3, 0, none⟩) (xs3.map (putS ⟨1, l, t, r, b⟩)).length cap3) (xs3.map (putS ⟨1, l, t, r, b⟩)).length (shRow (xs3.map (putS ⟨1, l, t, r, b⟩))) := by
          rw [hml]; exact hown'
        have HO := Lib.hid hown2
        have HM := Lib.hid hml
        have hm1 : (xs3.map (putS ⟨1, l, t, r, b⟩)).length ≤ 1000000 := by rw [hml]; omega
        have hne3 : xs3.map (putS ⟨1, l, t, r, b⟩) ≠ [] := by
          intro e
          have := HH3.out.ne
          simp at e
          exact this e
        have hlf : wr.frozen? ⟨L, 0, none⟩ = false := Lk.frozen 0
        have Cc := compact_any HO.out hm1 hne3
        rw [HM.out] at Cc
        clear hall hown' hown2 hml
        go_wp2_with fail
        refine Cc.mono ?_
        rintro e w5 ⟨rfl, hown5, O5⟩
        have L5 := Lk.only O5 hLg3
        have q0 := L5.cell 0
        have f0 := L5.frozen 0
        simp at q0
        clear Cc
        have HO5 := Lib.hid hown5
        clear hown5
        go_wp2_with fail
        go_end0
        have ecomp : compactS ((cutS b (cutS t xs)).map (putS ⟨1, l, t, r, b⟩)) = compactS (xs3.map (putS ⟨1, l, t, r, b⟩)) := by rw [Hd.out, HX2.out]
        have hcl := compactS_len (xs3.map (putS ⟨1, l, t, r, b⟩))
        have hcp := compactS_pos hne3
        refine ⟨rfl, g3, cap3, ?_, ?_, hg3⟩
        · rw [ecomp]
          refine ⟨?_, ownsRow_only HO5.out (Only.setCell _ _ _) (fun e => hLg3 e.symm), H.out.low, fun e => by rw [e] at hcp; simp at hcp, rising_compactS (rising_map _ HH3.out.rising), by omega⟩
          have := L5.set_ 0 (.slice (some ⟨g3, 0, none⟩) (compactS (xs3.map (putS ⟨1, l, t, r, b⟩))).length cap3)
          simpa using this
        · have key : ∀ i, i < w.heap.size → i = g3 → i = L ∨ i = g := by
            intro i hi he
            rcases hg3 with h' | h'
            · exact .inr (he.trans h')
            · omega
          exact ((P3.trans hO key).trans O5 key).trans (Only.setCell _ _ _) (fun _ _ h => .inl h)
  · go_enter Try.func65, Try.ntmps65
    go_wp2_with fail
    refine (rect_full _ _ _ _ _ hf1 hf2 hf3 hf4).mono ?_
    rintro e w1 ⟨rfl, hw1⟩
    rw [hfull]
    have b1 := (Blk.new w 59 #[.int .i64 l, .int .i64 t, .int .i64 r, .int .i64 b]).after hw1
    have k0 := b1.cell 0
    have k1 := b1.cell 1
    have k2 := b1.cell 2
    have k3 := b1.cell 3
    simp at k0 k1 k2 k3
    go_wp2_with fail
    have A1 : After w w1 := ((After.refl _).alloc _).trans hw1
    have H1 := H.out.after A1
    refine (cut_any H1 (by omega) t s0 Hs0.out hy).mono ?_
    rintro e w2 ⟨rfl, g2, cap2, H2, O2, G2⟩
    have hBL : w.heap.size ≠ L := by omega
    have hBg : w.heap.size ≠ g := by omega
    have b2 := b1.only O2 (by rintro (h | h) <;> contradiction)
    have hBg2 : w.heap.size ≠ g2 := by have := A1.size; have := b1.lt; rcases G2 with h | h <;> omega
    have k0 := b2.cell 0
    have k1 := b2.cell 1
    have k2 := b2.cell 2
    have k3 := b2.cell 3
    simp at k0 k1 k2 k3
    have P2 : Only w w2 (fun k => k = L ∨ k = g) := (A1.only _).trans O2 (fun _ _ h => h)
    have hlt1 : lowS t xs < xs2.length := by rw [hxs2]; exact lowS_lt_cut H.out.rising s0 Hs0.out hy
    rw [← hxs2] at H2 Hh2 hlen2 hlen3 hxs3 hlow
    have HH2 := Lib.hid H2
    have hg2 : g2 = g ∨ w.heap.size ≤ g2 := by
      rcases G2 with h | h
      · exact .inl h
      · exact .inr (Nat.le_trans A1.size h)
    have HX2 := Lib.hid hxs2
    have Hd := Lib.hid hxs3
    clear H1 H2 O2 G2 hxs2 hxs3
    go_wp2_with fail
    refine (cut_any HH2.out (by omega) b s0 Hh2.out (by omega)).mono ?_
    rintro e w3 ⟨rfl, g3, cap3, H3, O3, G3⟩
    have b3 := b2.only O3 (by rintro (h | h) <;> contradiction)
    have k0 := b3.cell 0
    have k1 := b3.cell 1
    have k2 := b3.cell 2
    have k3 := b3.cell 3
    simp at k0 k1 k2 k3
    have hxs3 := Hd.out
    rw [← hxs3] at H3 hlow
    have hb3g : w.heap.size ≠ g3 := by have := b2.lt; rcases G3 with h | h <;> omega
    have hg3 : g3 = g ∨ w.heap.size ≤ g3 := by
      have := P2.size
      rcases G3 with h | h
      · rw [h]; exact hg2
      · right; omega
    have P3 : Only w w3 (fun k => k = L ∨ k = g) := P2.trans O3 (fun i hi h => h.elim .inl (fun h => by
      have h2 : i = g2 := h
      rcases hg2 with h' | h'
      · exact .inr (h2.trans h')
      · exact absurd hi (by omega)))
    have hF : lowS t xs3 = lowS t xs := by rw [hlow, HX2.out]; exact lowS_cut (Int.le_refl _) xs
    have hT : lowS b xs3 = lowS b xs2 := by rw [hxs3]; exact lowS_cut (Int.le_refl _) xs2
    have hFT := lowS_mono (Int.le_of_lt c2) xs3
    have hTl := lowS_le b xs3
    rw [hF, hT] at hFT
    rw [hT] at hTl
    have hcap3 := H3.cap_le
    have q0 := H3.obj.cell 0
    simp at q0
    have HH3 := Lib.hid H3
    have hlt2 : lowS t xs < xs3.length := by rw [hxs3]; exact Nat.lt_of_lt_of_le hlt1 (cutS_le HH2.out.rising s0 Hh2.out (by omega))
    have hcF : ¬ cap3 = lowS t xs := by omega
    have hcT : lowS b xs2 ≤ cap3 := by omega
    have hx3l : xs3.length ≤ xs2.length + 1 := by rw [hxs3]; exact hlen3
    have HF := Lib.hid hF
    have HT := Lib.hid hT
    have HLow := Lib.hid hlow
    clear H3 G3 hxs3 hF hT hlow
    have hLg3 := HH3.out.ne_g
    go_wp2_with fail
    have hnn : lowS t xs ≤ lowS b xs2 := hFT
    have R0 := HH3.out.row
    have HR0 := Lib.hid R0
    clear R0
    go_loopw [37] (fun v wr => AddRel w3 base g3 cap3 xs3 ⟨2, l, t, r, b⟩ v wr) (fun v _ => lowS b xs2 + 1 - (intOf v).toNat)
    case atStart =>
      refine ⟨0, rfl, Nat.zero_le _, ?_, Only.refl _ _⟩
      rw [updN_zero]; exact HR0.out
    case round =>
      obtain ⟨k, rfl, hk, hown, hO⟩ := hrel
      rw [HF.out, HT.out] at hk
      rw [HF.out] at hown
      have Hown := Lib.hid hown
      clear hown
      have bk := b3.only hO hb3g
      have Lk := HH3.out.obj.only hO hLg3
      have k0 := bk.cell 0
      have k1 := bk.cell 1
      have k2 := bk.cell 2
      have k3 := bk.cell 3
      have q0 := Lk.cell 0
      simp at k0 k1 k2 k3 q0
      by_cases hkl : k < lowS b xs2 - lowS t xs
      · obtain ⟨x, hx⟩ : ∃ x, xs3[lowS t xs + k]? = some x := ⟨_, List.getElem?_eq_getElem (by omega)⟩
        have hx' := (updN_at ⟨2, l, t, r, b⟩ xs3 (lowS t xs) k (by omega)).trans hx
        obtain ⟨x0, x1, x2⟩ := rowAt_own Hown.out hx'
        have hgr : g3 < wr.heap.size := Nat.lt_of_lt_of_le HH3.out.g_lt hO.size
        have qx1 := fun n os => cell_grown (w := wr) hgr x2 n os
        have hfz := Hown.out.frozenAt
        have s1 := Hown.out.stored ((lowS t xs + k) * 3 + 2) (.int .i64 (if l < x.right then l else x.right))
        have hput : putS ⟨2, l, t, r, b⟩ x = ⟨x.top, x.left, if l < x.right then l else x.right⟩ := by
          have e1 := (lowS_iff (y := t) HH3.out.rising _ x hx).1 (by rw [HF.out]; omega)
          have e2 := (not_congr (lowS_iff (y := b) HH3.out.rising _ x hx)).1 (by rw [HT.out]; omega)
          unfold putS
          rw [if_pos ⟨e1, by dsimp only; omega⟩, if_neg (show ¬ ((2 : Int) = 1) by decide)]
          congr 1
          dsimp only
          split <;> omega
        have hsucc := updN_succ ⟨2, l, t, r, b⟩ hx
        rw [hput] at hsucc
        have Hx := Lib.hid hx'
        have S1 := Lib.hid s1
        have Hs := Lib.hid hsucc
        have Hput := Lib.hid hput
        clear hx hx' s1 hsucc hput x0 x1
        have i1 : (0 : Int) ≤ (lowS t xs : Int) + (k : Int) := by omega
        have i2 : ((lowS t xs : Int) + (k : Int)).toNat = lowS t xs + k := by omega
        have i3 : (lowS t xs : Int) + (k : Int) < (xs3.length : Int) := by omega
        have i4 : IntKind.i64.wrap ((lowS t xs : Int) + (k : Int)) = (lowS t xs : Int) + (k : Int) := by rw [IntKind.wrap_i64]; omega
        go_wp2_with fail
        go_region_law (skip)
        all_goals
          go_wp2_with fail
          go_roundw
          case rel =>
            refine ⟨k + 1, by go_num, by rw [HF.out, HT.out]; omega, ?_, ?_⟩
            · rw [HF.out, ← Hs.out]
              rw [← shRow_right Hx.out]
              exact S1.out.1
            · exact (hO.trans (Only.setCell _ _ _) (fun _ _ h => h)).then_after (After.refl _).drew
          case measure => simp [intOf]; omega
      · have hke : k = lowS b xs2 - lowS t xs := by omega
        have hall := updN_all ⟨2, l, t, r, b⟩ HH3.out.rising c2
        dsimp only at hall
        rw [HF.out, HT.out, ← hke] at hall
        have hown' := Hown.out
        rw [hall] at hown'
        have hml : (xs3.map (putS ⟨2, l, t, r, b⟩)).length = xs3.length := by simp
        have hown2 : wr.ownsRow base 32 3 (.slice (some ⟨g3, 0, none⟩) (xs3.map (putS ⟨2, l, t, r, b⟩)).length cap3) (xs3.map (putS ⟨2, l, t, r, b⟩)).length (shRow (xs3.map (putS ⟨2, l, t, r, b⟩))) := by
          rw [hml]; exact hown'
        have HO := Lib.hid hown2
        have HM := Lib.hid hml
        have hm1 : (xs3.map (putS ⟨2, l, t, r, b⟩)).length ≤ 1000000 := by rw [hml]; omega
        have hne3 : xs3.map (putS ⟨2, l, t, r, b⟩) ≠ [] := by
          intro e
          have := HH3.out.ne
          simp at e
          exact this e
        have hlf : wr.frozen? ⟨L, 0, none⟩ = false := Lk.frozen 0
        have Cc := compact_any HO.out hm1 hne3
        rw [HM.out] at Cc
        clear hall hown' hown2 hml
        go_wp2_with fail
        refine Cc.mono ?_
        rintro e w5 ⟨rfl, hown5, O5⟩
        have L5 := Lk.only O5 hLg3
        have q0 := L5.cell 0
        have f0 := L5.frozen 0
        simp at q0
        clear Cc
        have HO5 := Lib.hid hown5
        clear hown5
        go_wp2_with fail
        go_end0
        have ecomp : compactS ((cutS b (cutS t xs)).map (putS ⟨2, l, t, r, b⟩)) = compactS (xs3.map (putS ⟨2, l, t, r, b⟩)) := by rw [Hd.out, HX2.out]
        have hcl := compactS_len (xs3.map (putS ⟨2, l, t, r, b⟩))
        have hcp := compactS_pos hne3
        refine ⟨rfl, g3, cap3, ?_, ?_, hg3⟩
        · rw [ecomp]
          refine ⟨?_, ownsRow_only HO5.out (Only.setCell _ _ _) (fun e => hLg3 e.symm), H.out.low, fun e => by rw [e] at hcp; simp at hcp, rising_compactS (rising_map _ HH3.out.rising), by omega⟩
          have := L5.set_ 0 (.slice (some ⟨g3, 0, none⟩) (compactS (xs3.map (putS ⟨2, l, t, r, b⟩))).length cap3)
          simpa using this
        · have key : ∀ i, i < w.heap.size → i = g3 → i = L ∨ i = g := by
            intro i hi he
            rcases hg3 with h' | h'
            · exact .inr (he.trans h')
            · omega
          exact ((P3.trans hO key).trans O5 key).trans (Only.setCell _ _ _) (fun _ _ h => .inl h)

set_option maxRecDepth 100000 in
set_option maxHeartbeats 4000000 in
theorem add_not {w : World} {base L g cap : Nat} {xs : List Sh} (h : ListAt w base L g cap xs) (f : Flt) (hf1 : Nr f.l) (hf2 : Nr f.t) (hf3 : Nr f.r) (hf4 : Nr f.b) (hc : counts f = false) :
    Calls Try.prog 65 #[.pointer (some ⟨L, 0, none⟩), .int .i64 f.side, .agg #[.int .i64 f.l, .int .i64 f.t, .int .i64 f.r, .int .i64 f.b]] w (AddPost w base L g xs) := by
  obtain ⟨side, l, t, r, b⟩ := f
  dsimp only at hf1 hf2 hf3 hf4 ⊢
  have H := Lib.hid h
  have hmix := mixed
  clear h
  unfold counts at hc
  simp only [decide_eq_false_iff_not] at hc
  cases hfull : fullB l t r b with
  | false =>
    clear hc
    have hff := Lib.hid hfull
    clear hfull
    go_enter Try.func65, Try.ntmps65
    go_wp2_with fail
    refine (rect_full _ _ _ _ _ hf1 hf2 hf3 hf4).mono ?_
    rintro e w1 ⟨rfl, hw1⟩
    rw [hff.out]
    have A1 := Lib.hid (((After.refl w).alloc (.cells #[.int .i64 l, .int .i64 t, .int .i64 r, .int .i64 b] 59)).trans hw1)
    go_wp2_with fail
    all_goals
      refine bodyPost_ret (results_none rfl _ _ _) rfl ?_
      exact ⟨rfl, g, cap, H.out.after A1.out, A1.out.only _, .inl rfl⟩
  | true =>
    have hs : ¬ side = 1 ∧ ¬ side = 2 := by
      unfold fullB at hfull
      simp only [decide_eq_true_eq] at hfull
      constructor <;> (intro e; exact hc ⟨hfull.1, hfull.2, by simp [e]⟩)
    have s1 : (side != 1) = true := by simpa using hs.1
    have s2 : (side != 2) = true := by simpa using hs.2
    have hff := Lib.hid hfull
    clear hfull hc
    go_enter Try.func65, Try.ntmps65
    go_wp2_with fail
    refine (rect_full _ _ _ _ _ hf1 hf2 hf3 hf4).mono ?_
    rintro e w1 ⟨rfl, hw1⟩
    rw [hff.out]
    have A1 := Lib.hid (((After.refl w).alloc (.cells #[.int .i64 l, .int .i64 t, .int .i64 r, .int .i64 b] 59)).trans hw1)
    go_wp2_with fail
    all_goals
      refine bodyPost_ret (results_none rfl _ _ _) rfl ?_
      exact ⟨rfl, g, cap, H.out.after A1.out, A1.out.only _, .inl rfl⟩

theorem add_any {w : World} {base L g cap : Nat} {xs : List Sh} (h : ListAt w base L g cap xs) (hlen : xs.length < 900000) (f : Flt) (hf1 : Nr f.l) (hf2 : Nr f.t) (hf3 : Nr f.r) (hf4 : Nr f.b) (s0 : Sh) (hs0 : xs.head? = some s0) (hy : s0.top ≤ f.t) :
    Calls Try.prog 65 #[.pointer (some ⟨L, 0, none⟩), .int .i64 f.side, .agg #[.int .i64 f.l, .int .i64 f.t, .int .i64 f.r, .int .i64 f.b]] w (AddPost w base L g (addS xs f)) := by
  cases hc : counts f with
  | false =>
    have e : addS xs f = xs := by unfold addS; rw [hc]; rfl
    rw [e]
    exact add_not h f hf1 hf2 hf3 hf4 hc
  | true =>
    have e : addS xs f = compactS ((cutS f.b (cutS f.t xs)).map (putS f)) := by unfold addS; rw [hc]; rfl
    rw [e]
    unfold counts at hc
    simp only [decide_eq_true_eq] at hc
    exact add_counts h hlen f.side f.l f.t f.r f.b hf1 hf2 hf3 hf4 hc.1 hc.2.1 hc.2.2 s0 hs0 hy
end Go.Proofs.Ytefbeekjoafijaa
