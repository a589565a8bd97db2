/- (*Space).First, whatever is asked; Floats; the statements' example of chapter 10. -/
import Derived.Test.YtefbeekjoafijaaTell
namespace Go.Proofs.Ytefbeekjoafijaa
open Go.RowKit Go.Sort

theorem topsBelow_step {y t : Int} {ts : List Int} : ∀ {xs : List Sh}, Rising xs → topsBelow y xs = t :: ts → y < t ∧ topsBelow t xs = ts
  | [], _, h => by cases h
  | s :: r, hr, h => by
    have hr' := List.pairwise_cons.1 hr
    unfold topsBelow at h
    split at h
    · rename_i hlt
      injection h with h1 h2
      subst h1
      refine ⟨hlt, ?_⟩
      unfold topsBelow
      rw [if_neg (by omega)]
      rw [← h2]
      cases r with
      | nil => rfl
      | cons a q =>
        unfold topsBelow
        rw [if_pos (hr'.1 a (by simp))]
        rfl
    · rename_i hge
      obtain ⟨h1, h2⟩ := topsBelow_step hr'.2 h
      refine ⟨h1, ?_⟩
      unfold topsBelow
      rw [if_neg (by omega)]
      exact h2
theorem topsBelow_mem {y t : Int} : ∀ {xs : List Sh}, t ∈ topsBelow y xs → ∃ s ∈ xs, s.top = t
  | [], h => by cases h
  | s :: r, h => by
    unfold topsBelow at h
    split at h
    · rcases List.mem_cons.1 h with rfl | h
      · exact ⟨s, by simp, rfl⟩
      · obtain ⟨a, ha, e⟩ := List.mem_map.1 h
        exact ⟨a, List.mem_cons_of_mem _ ha, e⟩
    · obtain ⟨a, ha, e⟩ := topsBelow_mem h
      exact ⟨a, List.mem_cons_of_mem _ ha, e⟩

theorem enters {P : Program} {f : FuncId} {fn : Func} {c : Code} (hf : P.funcs[f]? = some fn) (hname : (fn.name == "runtime.NumGoroutine") = false) (hb : fn.body = some c) (args : Array Value) (w : World) :
    (callFunc f args).run P w = .ok (.enter f args) w := by
  have h1 : fn.name ≠ "runtime.NumGoroutine" := by simpa using hname
  simp [callFunc, hf, h1, hb]

theorem firstY_true {so : Int → Bool} {ts : List Int} {z : Int} (h : so z = true) : firstY so ts z = z ∧ askedY so ts z = [z] := by
  cases ts with
  | nil => exact ⟨rfl, rfl⟩
  | cons t ts => unfold firstY askedY; simp [h]
theorem firstY_false {so : Int → Bool} {t : Int} {ts : List Int} {z : Int} (h : so z = false) : firstY so (t :: ts) z = firstY so ts t ∧ askedY so (t :: ts) z = z :: askedY so ts t := by
  constructor
  · rw [firstY]; simp [h]
  · rw [askedY]; simp [h]

def FirstRel (so : Int → Bool) (xs : List Sh) (Ok : Int → Prop) (I : List Int → World → Prop) (y : Int) (v : Value) (wr : World) : Prop :=
  ∃ z asked, v = .int .i64 z ∧ I asked wr ∧ Ok z ∧ firstY so (topsBelow y xs) y = firstY so (topsBelow z xs) z ∧ askedY so (topsBelow y xs) y = asked ++ askedY so (topsBelow z xs) z

def FirstPost (so : Int → Bool) (xs : List Sh) (I : List Int → World → Prop) (y : Int) (e : Ending) (w' : World) : Prop :=
  e = .returned (.int .i64 (firstY so (topsBelow y xs) y)) ∧ I (askedY so (topsBelow y xs) y) w'

set_option maxRecDepth 100000 in
set_option maxHeartbeats 1000000 in
theorem first_any {base S L g cap : Nat} {fv : Value} {fs : List Flt} (so : Int → Bool) (Ok : Int → Prop) (I : List Int → World → Prop) (n : FuncId) (bound frees : Array Value) (hn : ∀ args w, (callFunc n args).run Try.prog w = .ok (.enter n args) w)
    (hI : ∀ asked w, I asked w → SpaceAt w base S L g cap fv fs) (hA : ∀ asked w w', I asked w → After w w' → I asked w')
    (hso : ∀ z asked w, Ok z → I asked w → Calls Try.prog n (bound ++ #[.int .i64 z] ++ frees) w (fun e w' => e = .returned (.bool (so z)) ∧ I (asked ++ [z]) w'))
    (hOk : ∀ s ∈ shelvesOf fs, Ok s.top) {w : World} (h : I [] w) (y : Int) (hy : Ok y) :
    Calls Try.prog 30 #[.pointer (some ⟨S, 0, none⟩), .int .i64 y, .func (.func n) bound frees] w (FirstPost so (shelvesOf fs) I y) := by
  have Hso := Lib.hid hso
  have HI := Lib.hid hI
  have HA := Lib.hid hA
  have HOk := Lib.hid hOk
  have H := Lib.hid h
  have hr := (hI _ _ h).list.rising
  clear hso hI hA hOk h
  go_enter Try.func30, Try.ntmps30
  go_wp2_with fail
  go_loopw [1] (fun v wr => FirstRel so (shelvesOf fs) Ok I y v wr) (fun v _ => (topsBelow (intOf v) (shelvesOf fs)).length)
  case atStart => exact ⟨y, [], rfl, H.out, hy, rfl, rfl⟩
  case round =>
    obtain ⟨z, asked, rfl, hi, hz, e1, e2⟩ := hrel
    have E1 := Lib.hid e1
    have E2 := Lib.hid e2
    clear e1 e2
    have c0 := Hso.out z asked wr hz hi
    rw [show bound ++ #[.int .i64 z] ++ frees = bound.push (.int .i64 z) ++ frees by simp] at c0
    have C := Lib.hid c0
    have Hi := Lib.hid hi
    have Hz := Lib.hid hz
    clear hi hz c0
    go_wp2_with fail
    refine C.out.mono ?_
    rintro e w1 ⟨rfl, hi1⟩
    have h1 := HI.out _ _ hi1
    have Hi1 := Lib.hid hi1
    clear hi1
    cases hsz : so z with
    | true =>
      have Hf := Lib.hid (firstY_true (ts := topsBelow z (shelvesOf fs)) hsz)
      clear hsz h1
      go_wp2_with fail
      go_ret
      refine ⟨ret_int (by rw [E1.out, Hf.out.1]), ?_⟩
      rw [E2.out, Hf.out.2]
      exact Hi1.out
    | false =>
      have k0 := h1.obj.cell 0
      simp [sCells] at k0
      have H1 := Lib.hid h1
      have Hsz := Lib.hid hsz
      clear h1 hsz
      go_wp2_with fail
      refine (after_any H1.out.list z).mono ?_
      rintro e w2 ⟨rfl, hw2⟩
      have Hi2 := Lib.hid (HA.out _ _ _ Hi1.out hw2)
      cases ht : topsBelow z (shelvesOf fs) with
      | nil =>
        have hnx : nextS z (shelvesOf fs) = (0, false) := by unfold nextS; rw [ht]
        have Ht := Lib.hid ht
        rw [hnx]
        clear ht hnx hw2 k0
        go_wp2_with fail
        go_ret
        refine ⟨ret_int (by rw [E1.out, Ht.out]; rfl), ?_⟩
        rw [E2.out, Ht.out]
        exact Hi2.out
      | cons t ts =>
        have hnx : nextS z (shelvesOf fs) = (t, true) := by unfold nextS; rw [ht]
        obtain ⟨hlt, hts⟩ := topsBelow_step hr ht
        have hok : Ok t := by
          obtain ⟨s, hs, e⟩ := topsBelow_mem (show t ∈ topsBelow z (shelvesOf fs) by rw [ht]; simp)
          rw [← e]; exact HOk.out s hs
        have hlen : (topsBelow z (shelvesOf fs)).length = ts.length + 1 := by rw [ht]; rfl
        have Hff := Lib.hid (firstY_false (t := t) (ts := ts) Hsz.out)
        have Ht := Lib.hid ht
        have Hts := Lib.hid hts
        have Hok := Lib.hid hok
        have Hlen := Lib.hid hlen
        rw [hnx]
        clear ht hts hok hnx hw2 k0 hlen
        go_wp2_with fail
        go_roundw
        case rel =>
          refine ⟨t, asked ++ [z], rfl, Hi2.out, Hok.out, ?_, ?_⟩
          · rw [E1.out, Ht.out, Hts.out, Hff.out.1]
          · rw [E2.out, Ht.out, Hts.out, Hff.out.2]; simp
        case measure =>
          show (topsBelow t (shelvesOf fs)).length < (topsBelow z (shelvesOf fs)).length
          rw [Hlen.out, Hts.out]; omega

/-! ### Floats -/
def FloatsPost (w : World) (fs : List Flt) (e : Ending) (w' : World) : Prop := ∃ v, e = .returned v ∧ FlsAt w' v fs ∧ After w w'

theorem flRow_at : ∀ {xs : List Flt} {i : Nat} {f : Flt}, xs[i]? = some f → ∀ j v, (flCells f)[j]? = some v → (flRow xs)[i * 5 + j]? = some v
  | [], i, s, h, _, _, _ => by simp at h
  | a :: xs, 0, s, h, j, v, hj => by
    simp at h; subst h
    have hl : j < (flCells a).length := (List.getElem?_eq_some_iff.1 hj).1
    simp only [flRow, List.flatMap_cons]
    rw [Nat.zero_mul, Nat.zero_add, List.getElem?_append_left hl]
    exact hj
  | a :: xs, i + 1, s, h, j, v, hj => by
    have := flRow_at (xs := xs) (i := i) (f := s) (by simpa using h) j v hj
    unfold flRow at this ⊢
    rw [List.flatMap_cons, List.getElem?_append_right (by simp [flCells]; omega)]
    rw [show (i + 1) * 5 + j - (flCells a).length = i * 5 + j by simp [flCells]; omega]
    exact this

theorem flsAt_of_own {w : World} {base g n cap : Nat} {fs : List Flt} (h : w.ownsRow base 84 5 (.slice (some ⟨g, 0, none⟩) n cap) n (flRow fs)) (hn : n = fs.length) : FlsAt w (.slice (some ⟨g, 0, none⟩) n cap) fs := by
  subst hn
  obtain ⟨cur, hb, hg, hc, hm, _⟩ := ownsRow_get h
  refine .inr ⟨g, 0, cap, rfl, (Array.getElem?_eq_some_iff.1 hg).1, ⟨hc, hm⟩, fun i f hf => ?_⟩
  have hi : i < fs.length := (List.getElem?_eq_some_iff.1 hf).1
  have key := fun j v hj => (h.cellAt (i * 5 + j) (by have : j < 5 := by have := (List.getElem?_eq_some_iff.1 (flRow_at hf j v hj)).1; have h2 := (List.getElem?_eq_some_iff.1 hj).1; simpa [flCells] using h2
                                                      omega)).trans (flRow_at hf j v hj)
  rw [Nat.zero_add]
  exact ⟨key 0 _ rfl, key 1 _ rfl, key 2 _ rfl, key 3 _ rfl, key 4 _ rfl⟩

set_option maxRecDepth 100000 in
set_option maxHeartbeats 1000000 in
theorem clone_fl {w : World} {base : Nat} {fv : Value} {fs : List Flt} (h : w.ownsRow base 84 5 fv fs.length (flRow fs)) (hn : fs.length ≤ 1000000) (hnil : fs = [] → fv = .slice none 0 0) :
    Calls Try.prog 81 #[fv] w (FloatsPost w fs) := by
  rcases h.2 with ⟨rfl, h0⟩ | ⟨g, cap, cur, rfl, _, _, hnc, hcm, _⟩
  · have hfs : fs = [] := List.length_eq_zero_iff.1 h0
    subst hfs
    have he : ∀ w : World, (binOp .eql 81 (.slice none 0 0) (.slice none 0 0)).run Try.prog w = .ok (.bool true) w := fun _ => rfl
    clear h
    go_enter Try.func81, Try.ntmps81
    go_wp2
    go_ret
    exact ⟨_, rfl, .inl ⟨none, 0, rfl, rfl⟩, After.refl _⟩
  · obtain ⟨i0, hi, hz0, hz1, hz2⟩ := info_parts info_fl
    have hg : g < w.heap.size := (h.lt g rfl).2
    have he : ∀ w : World, (binOp .eql 81 (.slice (some ⟨g, 0, none⟩) fs.length cap) (.slice none 0 0)).run Try.prog w = .ok (.bool false) w := fun _ => rfl
    by_cases hpos : 0 < fs.length
    · obtain ⟨W, hW⟩ : ∃ W, W = w.alloc (.cells #[] 84) := ⟨_, rfl⟩
      have hn1 : ∀ (j : Nat) (u : Value), (flRow fs)[j]? = some u → W.cell? ((⟨g, 0, none⟩ : Addr).add j) = some u := by
        intro j u hu
        have hj : j < (flRow fs).length := (List.getElem?_eq_some_iff.1 hu).1
        rw [flRow_length] at hj
        have a1 : After w W := by rw [hW]; exact (After.refl _).alloc _
        rw [add_lit, Nat.zero_add, a1.cell hg, h.cellAt j hj]
        exact hu
      have hown0 : W.ownsRow w.heap.size 84 5 (.slice (some ⟨w.heap.size, 0, none⟩) 0 0) 0 [] := by
        rw [hW]; exact ownsRow_of_blk (Blk.new w _ _) (Nat.le_refl _) (by decide) rfl
      have HN := Lib.hid hn1
      have H0 := Lib.hid hown0
      have HO := Lib.hid (oneCell_int _ (flRow_ints fs))
      have HL := Lib.hid (flRow_length fs)
      have HA := Lib.hid (show 0 + fs.length ≤ maxLen by unfold maxLen; omega)
      have HB := Lib.hid (show (0 + fs.length) * 40 ≤ 140737488355328 by omega)
      have hb : w.heap.size ≤ W.heap.size := by rw [hW]; simp
      have HW := Lib.hid hW
      clear h hn1 hown0 hW
      go_enter Try.func81, Try.ntmps81
      go_wp2_with (at_builtin; rw [← HW.out]; refine wpList_append_mine _ rfl _ _ 81 rfl w.heap.size 84 i0 _ 5 40 Try.underlying81 hi hz0 hz1 hz2 rfl (by decide) (.slice (some ⟨w.heap.size, 0, none⟩) 0 0) 0 [] rfl H0.out ⟨g, 0, none⟩ fs.length cap (flRow fs) rfl HL.out HN.out HO.out hpos HA.out HB.out hb ?_; intro g' cap' w1 hown1 hgrow1 hat1 hlt1 hdr1)
      all_goals
        go_ret
        have hown2 : w1.ownsRow w.heap.size 84 5 (.slice (some ⟨g', 0, none⟩) fs.length cap') fs.length (flRow fs) := by simpa using hown1
        refine ⟨.slice (some ⟨g', 0, none⟩) fs.length cap', by simp, flsAt_of_own hown2 rfl, ?_⟩
        have a1 : After w W := by rw [HW.out]; exact (After.refl _).alloc _
        exact After.of_grownBy_new hgrow1 hdr1 a1 (Nat.le_refl _)
    · have hfs : fs = [] := List.length_eq_zero_iff.1 (by omega)
      cases hnil hfs

theorem space_floats {w : World} {base S L g cap : Nat} {fv : Value} {fs : List Flt} (h : SpaceAt w base S L g cap fv fs) (hn : fs.length ≤ 1000000) :
    Calls Try.prog 53 #[.pointer (some ⟨S, 0, none⟩)] w (FloatsPost w fs) := by
  have k0 := h.obj.cell 1
  simp [sCells] at k0
  have C := Lib.hid (clone_fl h.row hn h.nil)
  clear h
  go_enter Try.func53, Try.ntmps53
  go_wp2_with fail
  refine C.out.mono ?_
  rintro e w1 ⟨v, rfl, hv, hw1⟩
  have Hv := Lib.hid hv
  clear hv
  go_wp2
  go_ret
  exact ⟨_, rfl, Hv.out, hw1⟩
end Go.Proofs.Ytefbeekjoafijaa
