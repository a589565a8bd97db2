/- Law ShelfOrder: lemmas, and its walk. -/
import Derived.Test.YtefbeekjoafijaaMore
import Derived.Deep.Upon
import Derived.OpenShut
namespace Go.Proofs.Ytefbeekjoafijaa
open Go.RowKit Go.Sort
set_option linter.unusedVariables false
set_option linter.unusedSimpArgs false
attribute [local irreducible] wpQuiet

/-! ### an append onto an own row, of whatever is there (nothing, too) -/
theorem step_append_any {P : Program} (w : World) {ops : Array Oper} {o : Oper} {a : Act} {K : Act → World → Prop} {Q : Exit → Act → World → Prop} {E : Prop} (hgd : o.guard = none) (s x : Operand) (t : TypeId)
    (ho : o.op = .call { callee := .builtin .append, args := #[s, x], argTypes := #[t, t] })
    (base : Nat) (e : TypeId) (i : TypeInfo) (z : Value) (size bytes : Nat) (ht : P.underlying t = some (.slice e)) (hi : P.info? e = some i) (hz : i.zero = some z)
    (hsize : i.size = size) (hby : i.bytes = bytes) (hzs : z.cells.size = size) (hsz : 0 < size)
    (g0 n c0 : Nat) (xs : List Value) (hs : a.eval s = .slice (some ⟨g0, 0, none⟩) n c0) (hown : w.ownsRow base e size (.slice (some ⟨g0, 0, none⟩) n c0) n xs)
    (ad : Option Addr) (m c : Nat) (news : List Value) (hx : a.eval x = .slice ad m c) (hl : news.length = m * size) (hnews : ∀ j u, news[j]? = some u → ∃ ad', ad = some ad' ∧ w.cell? (ad'.add j) = some u) (h1 : ∀ u ∈ news, u.oneCell' = true)
    (h63 : n + m ≤ maxLen) (hbytes : (n + m) * bytes ≤ 140737488355328) (hbase : base ≤ w.heap.size)
    (h : ∀ g cap w', w'.ownsRow base e size (.slice (some ⟨g, 0, none⟩) (n + m) cap) (n + m) (xs ++ news) → w.grownBy w' (some g0) → w.drawn ≤ w'.drawn → K (a.put o.dst (.slice (some ⟨g, 0, none⟩) (n + m) cap)) w') :
    if Region.wanted o (yielded ops a.tmps) = true then Oper.wp P o a w K Q else E := by
  by_cases hm : 0 < m
  · have h0 : 0 < news.length := by rw [hl]; exact Nat.mul_pos hm hsz
    obtain ⟨ad', rfl, _⟩ := hnews 0 news[0] (List.getElem?_eq_getElem h0)
    refine step_append_mine w hgd s x t ho base e i z size bytes ht hi hz hsize hby hzs hsz _ n xs hs hown ad' m c news hx hl (fun j u hu => ?_) h1 hm h63 hbytes hbase (fun g cap w' h2 h3 h4 h5 h6 => h g cap w' h2 h3 h6)
    obtain ⟨ad2, e2, h2⟩ := hnews j u hu
    cases e2
    exact h2
  · have hm0 : m = 0 := by omega
    subst hm0
    have hn0 : news = [] := List.length_eq_zero_iff.1 (by rw [hl, Nat.zero_mul])
    subst hn0
    have hle : n ≤ c0 := by
      obtain ⟨cur, _, _, hc, _⟩ := ownsRow_get hown
      exact hc
    have hsrc : Src P i.size t (.slice ad 0 c) 0 [] w := by
      cases ad with
      | none => exact Src.ofNil w ht c
      | some a' => exact Src.ofSlice w ht a' 0 c [] (by simp) (fun j u hu => by simp at hu) (fun u hu => by cases hu)
    have hrun := run_append_nothing (P := P) w t t o.type e i ht hi (some ⟨g0, 0, none⟩) n c0 hle (.slice ad 0 c) hsrc
    have hw : Region.wanted o (yielded ops a.tmps) = true := by simp [Region.wanted, hgd]
    rw [if_pos hw]
    unfold Oper.wp execOp
    simp only [ho, resolve, invoke, builtin, Sem.run_bind, Sem.run_pure, Result.andThen_ok, List.map_toArray, List.map_cons, List.map_nil, hs, hx, hrun]
    exact h g0 c0 w (by simpa using hown) (World.grownBy.refl _ _) (Nat.le_refl _)

/-! ### parts of a slice of floats -/
/-- the row of a slice of floats, at whatever address it stands -/
structure RowOf (w : World) (ad : Option Addr) (fs : List Flt) : Prop where
  get : ∀ j u, (flRow fs)[j]? = some u → ∃ ad', ad = some ad' ∧ ad'.block < w.heap.size ∧ w.cell? (ad'.add j) = some u

theorem RowOf.after {w w' : World} {ad : Option Addr} {fs : List Flt} (h : RowOf w ad fs) (k : After w w') : RowOf w' ad fs := by
  refine ⟨fun j u hu => ?_⟩
  obtain ⟨ad', e, hb, hc⟩ := h.get j u hu
  exact ⟨ad', e, Nat.lt_of_lt_of_le hb k.size, by rw [← hc]; exact k.toBelow.cell (p := ad'.add j) (by unfold Addr.add; split <;> exact hb)⟩

theorem rowOf_fls {w : World} {ad : Option Addr} {n cap : Nat} {fs : List Flt} (h : FlsAt w (.slice ad n cap) fs) : RowOf w ad fs := by
  obtain ⟨a, c, e, _, _, hc⟩ := h.split
  injection e with e1 _ _
  subst e1
  refine ⟨fun j u hu => ?_⟩
  have hpos : 0 < fs.length := by
    cases fs with
    | nil => simp [flRow] at hu
    | cons f l => simp
  obtain ⟨b, o, rfl, hb, _⟩ := hc 0 fs[0] (List.getElem?_eq_getElem hpos)
  refine ⟨⟨b, o, none⟩, rfl, hb, cells_row (fun i f hf => ?_) j u hu⟩
  obtain ⟨b', o', e2, _, h2⟩ := hc i f hf
  cases e2
  exact h2

theorem fls_take {w : World} {ad : Option Addr} {cap : Nat} {fs : List Flt} (h : FlsAt w (.slice ad fs.length cap) fs) {k : Nat} (hk : k ≤ fs.length) : FlsAt w (.slice ad k cap) (fs.take k) := by
  rcases h with ⟨a, c, e, hn⟩ | ⟨b, o, c, e, hb, ⟨h1, h2⟩, hc⟩
  · subst hn
    have : k = 0 := by simpa using hk
    subst this
    exact .inl ⟨_, _, rfl, rfl⟩
  · injection e with e1 _ e3
    subst e1
    subst e3
    refine .inr ⟨b, o, cap, by rw [List.length_take, Nat.min_eq_left hk], hb, ⟨by rw [List.length_take]; omega, h2⟩, fun i f hf => hc i f ?_⟩
    rw [List.getElem?_take] at hf
    split at hf
    · exact hf
    · cases hf


theorem fls_drop {w : World} {ad : Option Addr} {cap : Nat} {fs : List Flt} (h : FlsAt w (.slice ad fs.length cap) fs) {k : Nat} (hk : k ≤ fs.length) : FlsAt w (sliced ad k fs.length cap 5) (fs.drop k) := by
  unfold sliced
  by_cases hkl : k = fs.length
  · refine .inl ⟨_, _, by rw [hkl, Nat.sub_self], by rw [hkl, List.drop_length]⟩
  · rcases h with ⟨a, c, e, hn⟩ | ⟨b, o, c, e, hb, ⟨h1, h2⟩, hc⟩
    · subst hn
      exact absurd (by simpa using hk) hkl
    · injection e with e1 _ e3
      subst e1
      subst e3
      rw [if_neg (by omega)]
      refine .inr ⟨b, o + k * 5, cap - k, by rw [List.length_drop, Option.map_some, add_lit], hb, ⟨by rw [List.length_drop]; omega, by omega⟩, fun i f hf => ?_⟩
      rw [List.getElem?_drop] at hf
      have := hc (k + i) f hf
      rw [show o + k * 5 + i * 5 = o + (k + i) * 5 by omega]
      exact this

/-! ### plain: the floats, turned -/
def turnF (fs : List Flt) (k : Nat) : List Flt := fs.drop k ++ fs.take k ++ fs.take k
theorem turnF_mem (fs : List Flt) (k : Nat) (f : Flt) : f ∈ turnF fs k ↔ f ∈ fs := by
  unfold turnF
  rw [List.mem_append, List.mem_append]
  constructor
  · rintro ((h | h) | h)
    · exact List.mem_of_mem_drop h
    · exact List.mem_of_mem_take h
    · exact List.mem_of_mem_take h
  · intro h
    have e : f ∈ fs.take k ++ fs.drop k := by rw [List.take_append_drop]; exact h
    rcases List.mem_append.1 e with h | h
    · exact .inr h
    · exact .inl (.inl h)
theorem turnF_shelves (fs : List Flt) (k : Nat) : shelvesOf (turnF fs k) = shelvesOf fs := shInv_unique (shInv_of _) (shInv_of _) (gOf_eq_of_mem (turnF_mem fs k))
theorem turnF_length (fs : List Flt) {k : Nat} (hk : k ≤ fs.length) : (turnF fs k).length = fs.length + k := by
  unfold turnF
  rw [List.length_append, List.length_append, List.length_drop, List.length_take, Nat.min_eq_left hk]
  omega
theorem turnF_row (fs : List Flt) (k : Nat) : flRow (turnF fs k) = ([] ++ flRow (fs.drop k) ++ flRow (fs.take k)) ++ flRow (fs.take k) := by
  unfold turnF
  rw [flRow_append, flRow_append, List.nil_append]
theorem turnF_row' (fs : List Flt) (k : Nat) : flRow (fs.drop k) ++ flRow (fs.take k) ++ flRow (fs.take k) = flRow (turnF fs k) := by
  rw [turnF_row, List.nil_append]
theorem turnF_all {fs : List Flt} (h : fs.all smallF = true) (k : Nat) : (turnF fs k).all smallF = true := by
  rw [List.all_eq_true] at h ⊢
  exact fun f hf => h f ((turnF_mem fs k f).1 hf)
theorem take_all {fs : List Flt} (h : fs.all smallF = true) (k : Nat) : (fs.take k).all smallF = true := by
  rw [List.all_eq_true] at h ⊢
  exact fun f hf => h f (List.mem_of_mem_take hf)
theorem part_band (fs : List Flt) (k : Nat) {a b : Int} (ha : -Far ≤ a) : (bandS (shelvesOf (fs.take k)) a b).1 ≤ (bandS (shelvesOf fs) a b).1 ∧ (bandS (shelvesOf fs) a b).2 ≤ (bandS (shelvesOf (fs.take k)) a b).2 :=
  band_sub (l := fs.take k) (m := fs) (fun f hf => List.mem_of_mem_take hf) ha

/-! ### the statements' example of chapter 09 -/
def flt0b : Flt := ⟨1, 0, 2, 3, 5⟩
instance decNr (x : Int) : Decidable (Nr x) := by unfold Nr; infer_instance
theorem law09_speaks (w : World) : Calls Try.prog 19 #[] w (Ret (.bool true) w) := by
  have hlen : (shelvesOf [flt0b]).length = 3 := by decide
  have hbd : bandS (shelvesOf [flt0b]) 0 9 = (3, 4503599627370496) := by decide
  have hfld : ∀ (c d : Int) (w : World), (Instr.field 34 (.agg #[.int .i64 c, .int .i64 d]) 0).run Try.prog w = .ok (.int .i64 c) w := fun _ _ _ => by kernel_rfl
  have HL := Lib.hid hlen
  have HB := Lib.hid hbd
  clear hlen hbd
  go_enter Try.func19, Try.ntmps19
  go_wp2_with fail
  refine (shelf_new _).mono ?_
  rintro e w1 ⟨L, g, cap, rfl, hL, hw1⟩
  have H1 := Lib.hid hL
  clear hL
  go_wp2_with fail
  refine (add_next (fs := []) H1.out (by decide) flt0b (by decide)).mono ?_
  rintro e w2 ⟨rfl, g2, cap2, h2, O2, G2⟩
  have A2 := Lib.hid (show After w w2 from ((hw1.only _).trans O2 (fun _ _ h => h)).after_of (fun k hk hS => by
    rcases hS with e | e
    · have := H1.out.low; omega
    · have := (H1.out.row.lt g rfl).1; omega))
  have H2 := Lib.hid h2
  clear h2 O2 G2 hw1
  go_wp2_with fail
  refine (list_shelves H2.out).mono ?_
  rintro e w3 ⟨g3, cap3, rfl, hr3, hw3⟩
  rw [show (shelvesOf ([] ++ [flt0b])).length = 3 from HL.out]
  go_wp2_with fail
  have C := band_any (H2.out.after hw3) 0 9 (by decide) (by decide)
  rw [show bandS (shelvesOf ([] ++ [flt0b])) 0 9 = (3, 4503599627370496) from HB.out] at C
  refine C.mono ?_
  rintro e w4 ⟨rfl, hw4⟩
  go_wp2
  go_ret
  exact ⟨rfl, A2.out.trans (hw3.trans hw4)⟩

theorem sliced_from0 (ad : Option Addr) (k cap sz : Nat) : sliced ad 0 k cap sz = .slice ad k cap := by
  unfold sliced
  have e : ad.map (fun x => x.add (0 * sz)) = ad := by
    cases ad with
    | none => rfl
    | some x => simp [Addr.add]
  rw [e]
  simp
theorem size_rf : Try.prog.elem 22 = 72 := by kernel_rfl
theorem under_rf : Try.prog.underlying 22 = some (.slice (Try.prog.elem 22)) := by kernel_rfl
theorem sizeOf_rf (w : World) : (sizeOf (Try.prog.elem 22)).run Try.prog w = .ok 5 w := by kernel_rfl
theorem run_till (w : World) (ad : Option Addr) (n cap k : Nat) (h : k ≤ cap) : (Instr.slice 22 (.slice ad n cap) none (some (.int .i64 (k : Int))) none).run Try.prog w = .ok (.slice ad k cap) w := by
  rw [run_slice_h (P := Try.prog) w 22 ad n cap under_rf .i64 (k : Int) (by omega) (by omega), sizeOf_rf]
  show Result.ok (sliced ad 0 (k : Int).toNat cap 5) w = _
  rw [Int.toNat_natCast, sliced_from0]
theorem run_from (w : World) (ad : Option Addr) (n cap k : Nat) (h : k ≤ n) : (Instr.slice 22 (.slice ad n cap) (some (.int .i64 (k : Int))) none none).run Try.prog w = .ok (sliced ad k n cap 5) w := by
  rw [run_slice_l (P := Try.prog) w 22 ad n cap under_rf .i64 (k : Int) (by omega) (by omega), sizeOf_rf]
  show Result.ok (sliced ad (k : Int).toNat n cap 5) w = _
  rw [Int.toNat_natCast]
theorem sliced_slice (ad : Option Addr) (k n cap sz : Nat) : ∃ a c, sliced ad k n cap sz = .slice a (n - k) c := ⟨_, _, rfl⟩
theorem RowOf.news {w w' : World} {ad : Option Addr} {fs : List Flt} (h : RowOf w ad fs) (k : After w w') : ∀ j u, (flRow fs)[j]? = some u → ∃ ad', ad = some ad' ∧ w'.cell? (ad'.add j) = some u := by
  intro j u hu
  obtain ⟨ad', e, _, hc⟩ := (h.after k).get j u hu
  exact ⟨ad', e, hc⟩
theorem after_grown {w X x1 : World} {g0 : Nat} (k : After w X) (hg : w.heap.size ≤ g0) (h1 : X.grownBy x1 (some g0)) (h2 : X.drawn ≤ x1.drawn) : After w x1 :=
  ((k.only _).trans (Only.of_grownOwn h1 h2) (fun _ _ h => h)).after_of (fun i hi hS => by have e : g0 = i := (by injection hS); omega)

theorem rowAt_owns {w : World} {base g cap : Nat} {xs : List Sh} (h : w.ownsRow base 32 3 (.slice (some ⟨g, 0, none⟩) xs.length cap) xs.length (shRow xs)) : RowAt w g xs := by
  refine ⟨(h.lt g rfl).2, fun i s hs => ?_⟩
  obtain ⟨a, b, c⟩ := shRow_at hs
  have hi : i < xs.length := (List.getElem?_eq_some_iff.1 hs).1
  exact ⟨(h.cellAt _ (by omega)).trans a, (h.cellAt _ (by omega)).trans b, (h.cellAt _ (by omega)).trans c⟩

/-! ### the walk -/
def AnyList (w : World) (v : Value) (xs : List Sh) : Prop := ∃ base L g cap, v = .pointer (some ⟨L, 0, none⟩) ∧ ListAt w base L g cap xs
theorem AnyList.after {w w' : World} {v : Value} {xs : List Sh} (h : AnyList w v xs) (k : After w w') : AnyList w' v xs := by
  obtain ⟨base, L, g, cap, e, hL⟩ := h
  exact ⟨base, L, g, cap, e, hL.after k⟩

set_option maxRecDepth 100000 in
set_option maxHeartbeats 8000000 in
theorem shelfOrder {w : World} {v : Value} {fs : List Flt} (h : FlsAt w v fs) (cut : Int) (hwf : (Lit.int .u8 cut).wf = true) (a b : Int) :
    Calls Try.prog 3 #[v, .int .u8 cut, .int .i64 a, .int .i64 b] w (Ret (.bool true) w) := by
  have hcut : 0 ≤ cut ∧ cut ≤ 255 := by
    have h9 := bounds_u8 hwf
    omega
  clear hwf
  have hmix := mixed
  obtain ⟨i0, hi, hz0, hz1, hz2⟩ := info_parts info_rf
  obtain ⟨ad, cap0, rfl, hl0, hlc0, hcell0⟩ := h.split
  have HV := Lib.hid h
  clear h hcell0
  go_enter Try.func3, Try.ntmps3
  go_wp2_with fail
  refine (law09_speaks _).mono ?_
  rintro e w1 ⟨rfl, hw1⟩
  have A1 := Lib.hid hw1
  clear hw1
  go_wp2_with fail
  refine (law09_few (HV.out.after A1.out) 30).mono ?_
  rintro e w2 ⟨rfl, hw2⟩
  have A2 := Lib.hid (A1.out.trans hw2)
  clear hw2
  cases hfew : fewB fs 30 with
  | false =>
    go_wp2_with fail
    refine (law09_speaks _).mono ?_
    rintro e w3 ⟨rfl, hw3⟩
    go_wp2
    go_ret
    exact ⟨rfl, A2.out.trans hw3⟩
  | true =>
    go_wp2_with fail
    refine (ref09_small a b 0 0 _).mono ?_
    rintro e w3 ⟨rfl, hw3⟩
    have A3 := Lib.hid (A2.out.trans hw3)
    clear hw3
    cases hsm : small4 a b 0 0 with
    | false =>
      go_wp2_with fail
      refine (law09_speaks _).mono ?_
      rintro e w4 ⟨rfl, hw4⟩
      go_wp2
      go_ret
      exact ⟨rfl, A3.out.trans hw4⟩
    | true =>
      have hall : fs.all smallF = true := by unfold fewB at hfew; rw [Bool.and_eq_true] at hfew; exact hfew.1
      have hlen : fs.length ≤ 30 := by unfold fewB at hfew; rw [Bool.and_eq_true, decide_eq_true_eq] at hfew; omega
      obtain ⟨hab, hfar⟩ : (Nr a ∧ Nr b) ∧ -Far ≤ a := by
        unfold small4 at hsm
        simp only [List.all_cons, List.all_nil, Bool.and_eq_true, in1, decide_eq_true_eq, and_true] at hsm
        unfold Nr Far
        exact ⟨⟨by omega, by omega⟩, by omega⟩
      clear hfew hsm
      obtain ⟨k, hk, hkl⟩ : ∃ k : Nat, cut % ((fs.length : Int) + 1) = (k : Int) ∧ k ≤ fs.length := by
        have m1 := Int.emod_nonneg cut (show (fs.length : Int) + 1 ≠ 0 by omega)
        have m2 := Int.emod_lt_of_pos cut (show 0 < (fs.length : Int) + 1 by omega)
        generalize cut % ((fs.length : Int) + 1) = z at m1 m2 ⊢
        exact ⟨z.toNat, by omega, by omega⟩
      go_wp2_with fail
      rw [hk]
      have HA := Lib.hid hall
      have HK := Lib.hid hkl
      have sl1 := fun wx => run_till wx ad fs.length cap0 k (Nat.le_trans hkl hlc0)
      have TK := Lib.hid (fls_take HV.out hkl)
      go_cut [10, 11] from 40 to 45 (fun u v wx => AnyList wx u (shelvesOf fs) ∧ AnyList wx v (shelvesOf (fs.take k)) ∧ After w wx)
      case first =>
        clear hk hcut hi hz0 hz1 hz2 hab hall
        go_region_law (first
          | (go_simp; go_at_call 22; refine (law09_begin (TK.out.after AB) (take_all HA.out k) (by rw [List.length_take]; omega)).mono ?_; rintro e w5 ⟨L2, g2, cap2, rfl, hL2, hw5⟩)
          | (go_simp; go_at_call 22; refine (law09_begin (HV.out.after (by first | exact A3.out | exact A3.out.drew)) HA.out (by omega)).mono ?_; rintro e w4 ⟨L1, g1, cap1, rfl, hL1, hw4⟩; have AB : After w w4 := (by first | exact A3.out.trans hw4 | exact A3.out.drew.trans hw4)))
        all_goals (go_wp2_with fail; go_meet)
        all_goals exact ⟨⟨_, _, _, _, rfl, hL1.after hw5⟩, ⟨_, _, _, _, rfl, hL2⟩, AB.trans hw5⟩
      case rest =>
        obtain ⟨hu, hv, hA0⟩ := hcut
        have HU := Lib.hid hu
        have HW := Lib.hid hv
        have AC := Lib.hid hA0
        clear hu hv hA0
        obtain ⟨ad2, c2, hs2⟩ := sliced_slice ad k fs.length cap0 5
        have hdr := fls_drop HV.out hkl
        have sl2 := fun wx => run_from wx ad fs.length cap0 k hkl
        rw [hs2] at hdr
        simp only [hs2] at sl2
        obtain ⟨m2, hm2⟩ : ∃ m2, fs.length - k = m2 := ⟨_, rfl⟩
        rw [hm2] at hdr
        simp only [hm2] at sl2
        have RD := Lib.hid (rowOf_fls (hdr.after AC.out))
        have RT := Lib.hid (rowOf_fls (TK.out.after AC.out))
        have LD := Lib.hid (show (flRow (fs.drop k)).length = m2 * 5 by rw [flRow_length, List.length_drop, hm2])
        have LT := Lib.hid (show (flRow (fs.take k)).length = k * 5 by rw [flRow_length, List.length_take, Nat.min_eq_left hkl])
        have OD := Lib.hid (oneCell_int _ (flRow_ints (fs.drop k)))
        have OT := Lib.hid (oneCell_int _ (flRow_ints (fs.take k)))
        have HM := Lib.hid (show m2 + k = fs.length by omega)
        have HA1 := Lib.hid (show 0 + m2 ≤ maxLen by unfold maxLen; omega)
        have HB1 := Lib.hid (show (0 + m2) * 40 ≤ 140737488355328 by omega)
        have HA2 := Lib.hid (show m2 + k ≤ maxLen by unfold maxLen; omega)
        have HB2 := Lib.hid (show (m2 + k) * 40 ≤ 140737488355328 by omega)
        have HA3 := Lib.hid (show m2 + k + k ≤ maxLen by unfold maxLen; omega)
        have HB3 := Lib.hid (show (m2 + k + k) * 40 ≤ 140737488355328 by omega)
        have HTL := Lib.hid (show m2 + k + k = (turnF fs k).length by rw [turnF_length fs hkl]; omega)
        clear hdr hs2 hm2 hk hcut
        go_wp2_with fail
        go_cut [12] from 46 to 59 (fun u wx => AnyList wx u (shelvesOf fs) ∧ After wc wx)
        case first =>
          clear hab hall
          have A0 := ((After.refl wc).alloc (.cells #[] 72)).drew
          have R0 := Lib.hid (show (wc.alloc (.cells #[] 72)).drew.ownsRow wc.heap.size 72 5 (.slice (some ⟨wc.heap.size, 0, none⟩) 0 0) 0 [] from ownsRow_of_blk (Blk.new wc 72 #[]).drew (Nat.le_refl _) (by decide) rfl)
          go_region_law (first
            | (go_simp; go_at_call 22; refine (law09_begin (flsAt_of_row ((turnF_row' fs k) ▸ hown3) HTL.out) (turnF_all HA.out k) (by rw [← HTL.out]; have := HM.out; omega)).mono ?_; rintro e w5 ⟨L3, g4, cap4, rfl, hL3, hw5⟩)
            | (refine step_append_any _ rfl _ _ 22 rfl wc.heap.size 72 i0 _ 5 40 Try.underlying22 hi hz0 hz1 hz2 rfl (by decide) g2 (m2 + k) cap2 (flRow (fs.drop k) ++ flRow (fs.take k)) rfl hown2 ad k cap0 (flRow (fs.take k)) rfl LT.out (RT.out.news AX2) OT.out HA3.out HB3.out AX2.size ?_; intro g3 cap3 x3 hown3 hgrow3 hdr3; have AX3 : After wc x3 := after_grown AX2 (hown2.lt g2 rfl).1 hgrow3 hdr3)
            | (refine step_append_any _ rfl _ _ 22 rfl wc.heap.size 72 i0 _ 5 40 Try.underlying22 hi hz0 hz1 hz2 rfl (by decide) g1 m2 cap1 (flRow (fs.drop k)) rfl hown1 ad k cap0 (flRow (fs.take k)) rfl LT.out (RT.out.news AX1) OT.out HA2.out HB2.out AX1.size ?_; intro g2 cap2 x2 hown2 hgrow2 hdr2; have AX2 : After wc x2 := after_grown AX1 (hown1.lt g1 rfl).1 hgrow2 hdr2)
            | (refine step_append_any _ rfl _ _ 22 rfl wc.heap.size 72 i0 _ 5 40 Try.underlying22 hi hz0 hz1 hz2 rfl (by decide) wc.heap.size 0 0 ([]) rfl R0.out ad2 m2 c2 (flRow (fs.drop k)) rfl LD.out (RD.out.news A0) OD.out HA1.out HB1.out A0.size ?_; intro g1 cap1 x1 hown0 hgrow1 hdr1; have hown1 : x1.ownsRow wc.heap.size 72 5 (.slice (some ⟨g1, 0, none⟩) m2 cap1) m2 (flRow (fs.drop k)) := (by simpa using hown0); clear hown0; have AX1 : After wc x1 := after_grown A0 (Nat.le_refl _) hgrow1 hdr1))
          all_goals (go_wp2_with fail; go_meet)
          all_goals
            rw [turnF_shelves] at hL3
            exact ⟨⟨_, _, _, _, rfl, hL3⟩, AX3.trans hw5⟩
        case rest =>
          obtain ⟨hx, hA1⟩ := hcut
          obtain ⟨b3, L3, g3, cap3, rfl, h3⟩ := hx
          obtain ⟨b1, L1, g1, cap1, rfl, h1⟩ := HU.out
          obtain ⟨b2, L2, g2, cap2, rfl, h2⟩ := HW.out
          have H1 := Lib.hid (h1.after hA1)
          have H2 := Lib.hid (h2.after hA1)
          have H3 := Lib.hid h3
          have A5 := Lib.hid (AC.out.trans hA1)
          have hne : 0 < (shelvesOf fs).length := List.length_pos_iff.2 h3.ne
          have hsm : (shelvesOf fs).length ≤ 1000000 := h3.small
          clear h1 h2 h3 hA1 sl1 sl2 hi hz0 hz1 hz2
          obtain ⟨xs, hxs⟩ : ∃ xs, shelvesOf fs = xs := ⟨_, rfl⟩
          have HXS := Lib.hid hxs
          rw [hxs] at H1 H3 hne hsm
          clear hxs
          go_wp2_with fail
          refine (list_shelves H1.out).mono ?_
          rintro e w6 ⟨g6, cap6, rfl, hr6, hw6⟩
          have R6 := Lib.hid hr6
          have H36 := Lib.hid (H3.out.after hw6)
          have A6 := Lib.hid (A5.out.trans hw6)
          clear hr6
          go_wp2_with fail
          refine (list_shelves H36.out).mono ?_
          rintro e w7 ⟨g7, cap7, rfl, hr7, hw7⟩
          have R7 := Lib.hid hr7
          have A7 := Lib.hid (A6.out.trans hw7)
          have H17 := Lib.hid (H1.out.after (hw6.trans hw7))
          have H27 := Lib.hid (H2.out.after (hw6.trans hw7))
          go_wp2_with fail
          have R67 := Lib.hid (rowAt_owns R6.out |>.after hw7)
          have R77 := Lib.hid (rowAt_owns R7.out)
          clear hr7 hw6 hw7
          go_loopw [81] (fun v wr => ∃ j : Nat, v = .int .i64 (j : Int) ∧ j ≤ xs.length ∧ After w7 wr) (fun v _ => xs.length + 1 - (intOf v).toNat)
          case atStart => exact ⟨0, rfl, Nat.zero_le _, After.refl _⟩
          case round =>
            obtain ⟨j, rfl, hj, hwr⟩ := hrel
            by_cases hlt : j < xs.length
            · obtain ⟨s, hs⟩ : ∃ s, xs[j]? = some s := ⟨_, List.getElem?_eq_getElem hlt⟩
              have q6 := (R67.out.after hwr).2 j s hs
              have q7 := (R77.out.after hwr).2 j s hs
              obtain ⟨q60, q61, q62⟩ := q6
              obtain ⟨q70, q71, q72⟩ := q7
              have HWR := Lib.hid hwr
              clear hwr hs
              go_wp2_with fail
              go_quiet (fail)
              go_wp2_with fail
              refine ⟨⟨j + 1, by go_num, by omega, HWR.out.drewN _⟩, by simp [intOf]; omega⟩
            · obtain ⟨ha, hb⟩ := hab
              have hsub := part_band fs k (a := a) (b := b) hfar
              rw [HXS.out] at hsub
              obtain ⟨x, hx⟩ : ∃ x, bandS xs a b = x := ⟨_, rfl⟩
              obtain ⟨x2, hx2⟩ : ∃ x, bandS (shelvesOf (fs.take k)) a b = x := ⟨_, rfl⟩
              rw [hx, hx2] at hsub
              obtain ⟨p, q⟩ := x
              obtain ⟨p2, q2⟩ := x2
              dsimp only at hsub
              obtain ⟨hsub1, hsub2⟩ := hsub
              have k8 := hwr.alloc (.cells #[.int .i64 a, .int .i64 b] 34)
              have R8 := Lib.hid (Blk.new wr 34 #[.int .i64 a, .int .i64 b])
              have S8 := Lib.hid (H17.out.after k8)
              have U8 := Lib.hid (H27.out.after k8)
              have A8 := Lib.hid (A7.out.trans k8)
              clear hwr k8
              go_wp2_with fail
              generalize hW8 : wr.alloc (.cells #[.int .i64 a, .int .i64 b] 34) = W8 at R8 S8 U8 A8 ⊢
              clear hW8
              have Cx := fun (w' : World) (k : After W8 w') => band_any (S8.out.after k) a b ha hb
              have Cz := fun (w' : World) (k : After W8 w') => band_any (U8.out.after k) a b ha hb
              rw [hx] at Cx
              rw [hx2] at Cz
              have CX := Lib.hid Cx
              have CZ := Lib.hid Cz
              clear Cx Cz hx hx2
              have k0 := R8.out.cell 0
              have k1 := R8.out.cell 1
              simp at k0 k1
              have q0 := fun n os => cell_grown (w := W8) R8.out.lt k0 n os
              have q1 := fun n os => cell_grown (w := W8) R8.out.lt k1 n os
              clear k0 k1
              refine wp_region_fresh 8 [(6, .cells #[.int .i64 0, .int .i64 0] 34), (7, .cells #[.int .i64 0, .int .i64 0] 34)] hmix (by kernel_rfl) (lays_of (by decide) (by kernel_rfl) (lays_cons rfl rfl (fun _ => rfl) (al_span _ rfl) (lays_cons rfl rfl (fun _ => rfl) (al_span _ rfl) (fun x hx => by cases hx)))) ?_
              simp only [List.take_succ_cons, List.take_zero, List.drop_succ_cons, List.drop_zero]
              iterate 3 (first
                | refine wpFresh_al rfl ?_
                | (refine wpFresh_step rfl (fun KK hKK => ?_)
                   go_simp
                   first
                     | (refine hKK _ ?_; clear hKK KK)
                     | (apply Exists.intro
                        refine ⟨fun p => ?_, hKK _ ?_⟩
                        (go_at_call 24; exact CX.out _ (gw_after _ p))
                        clear hKK KK)))
              iterate 3 (first
                | refine wpFresh_al rfl ?_
                | (refine wpFresh_step rfl (fun KK hKK => ?_)
                   go_simp
                   first
                     | (refine hKK _ ?_; clear hKK KK)
                     | (apply Exists.intro
                        refine ⟨fun p => ?_, hKK _ ?_⟩
                        (go_at_call 24; exact CZ.out _ (gw_after _ p))
                        clear hKK KK)))
              iterate 2 (refine wpFresh_al rfl ?_)
              refine wpFresh_nil ?_
              intro P Q wx hL
              obtain ⟨AX9, ⟨b0x, hl0⟩, ⟨b1x, hl1⟩, ne01⟩ := hL.two (by decide)
              have bP : Blk wx P 34 #[.int .i64 0, .int .i64 0] := b0x
              have bQ : Blk wx Q 34 #[.int .i64 0, .int .i64 0] := b1x
              clear hL b0x b1x q0 q1
              have c0 := bP.cell 0
              have c1 := bP.cell 1
              have f0 := bP.frozen 0
              have f1 := bP.frozen 1
              simp at c0 c1
              obtain ⟨wm, hwm⟩ : ∃ wm, (wx.setCell ⟨P, 0, none⟩ (.int .i64 p)).setCell ⟨P, 1, none⟩ (.int .i64 q) = wm := ⟨_, rfl⟩
              have bPm : Blk wm P 34 #[.int .i64 p, .int .i64 q] := hwm ▸ (bP.set_ 0 _).set_ 1 _
              have bQm : Blk wm Q 34 #[.int .i64 0, .int .i64 0] := hwm ▸ (bQ.far (p := ⟨P, 0, none⟩) (Ne.symm ne01) _).far (p := ⟨P, 1, none⟩) (Ne.symm ne01) _
              have AXm : After W8 wm := hwm ▸ (AX9.setCell hl0 _).setCell hl0 _
              have d0 := bQm.cell 0
              have d1 := bQm.cell 1
              have g0 := bQm.frozen 0
              have g1 := bQm.frozen 1
              simp at d0 d1
              obtain ⟨wy, hwy⟩ : ∃ wy, (wm.setCell ⟨Q, 0, none⟩ (.int .i64 p2)).setCell ⟨Q, 1, none⟩ (.int .i64 q2) = wy := ⟨_, rfl⟩
              have HP := Lib.hid (show Blk wy P 34 #[.int .i64 p, .int .i64 q] from hwy ▸ (bPm.far (p := ⟨Q, 0, none⟩) ne01 _).far (p := ⟨Q, 1, none⟩) ne01 _)
              have HQ := Lib.hid (show Blk wy Q 34 #[.int .i64 p2, .int .i64 q2] from hwy ▸ (bQm.set_ 0 _).set_ 1 _)
              have A10 := Lib.hid (show After W8 wy from hwy ▸ (AXm.setCell hl1 _).setCell hl1 _)
              clear bP bQ bPm bQm AX9 AXm ne01
              have n0 := HP.out.cell 0
              have n1 := HP.out.cell 1
              have o0 := HQ.out.cell 0
              have o1 := HQ.out.cell 1
              simp at n0 n1 o0 o1
              go_wp2_with fail
              go_ret
              exact ⟨ret_bool (by first | rfl | simp [hsub1, hsub2]), A8.out.trans A10.out⟩
end Go.Proofs.Ytefbeekjoafijaa
