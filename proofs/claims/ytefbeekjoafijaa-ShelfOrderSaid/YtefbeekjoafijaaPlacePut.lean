/- place.Put; the statements' example of chapter 11. -/
import Derived.Test.YtefbeekjoafijaaPlaceFind
import Derived.Test.YtefbeekjoafijaaChain
namespace Go.Proofs.Ytefbeekjoafijaa
open Go.RowKit Go.Sort
set_option linter.unusedVariables false
set_option linter.unusedSimpArgs false
attribute [local irreducible] wpQuiet

def PPost (w : World) (base S L g : Nat) (fv : Value) (fs : List Flt) (r : Value) (e : Ending) (w' : World) : Prop :=
  e = .returned r ∧ ∃ g' cap' fv', SpaceAt w' base S L g' cap' fv' fs ∧ Only w w' (owns S L g fv)

set_option maxRecDepth 100000 in
set_option maxHeartbeats 4000000 in
theorem place_put {w : World} {base S L g cap : Nat} {fv : Value} {fs : List Flt} (h : SpaceAt w base S L g cap fv fs) (hall : fs.all smallF = true) (hlen : fs.length ≤ 100000) {side clear a b wd ht y z x r2 b2 : Int} (hs : side = 1 ∨ side = 2) (ha : L48 a) (hb : L48 b) (hw : L48 wd) (hh : L48 ht) (hy : L48 y)
    (hz : firstOf fs ht (fitsP side a b wd) (startP fs clear y) = z) (hx : leftP side a b wd (bandAt fs z ht) = x) (hr : x + wd = r2) (hb2 : z + ht = b2) (hsm : smallF ⟨side, x, z, r2, b2⟩ = true) :
    Calls Try.prog 84 #[.pointer (some ⟨S, 0, none⟩), .agg #[.int .i64 side, .int .i64 clear, .int .i64 a, .int .i64 b, .int .i64 wd, .int .i64 ht, .int .i64 y]] w
      (PPost w base S L g fv (fs ++ [⟨side, x, z, r2, b2⟩]) (.agg #[.int .i64 x, .int .i64 z, .int .i64 r2, .int .i64 b2])) := by
  have CF := Lib.hid (fun (w' : World) (k : After w w') => place_find (clear := clear) (h.after k) hall hs ha hb hw hh hy hz hx)
  rw [hr, hb2] at CF
  have CP := Lib.hid (fun (w' : World) (k : After w w') => put_any (h.after k) hlen side x z r2 b2 hs hsm)
  have H := Lib.hid h
  clear h hall hlen hs ha hb hw hh hy hz hx hsm hr hb2
  have A2 := Lib.hid (((After.refl w).alloc (.cells #[.int .i64 side, .int .i64 clear, .int .i64 a, .int .i64 b, .int .i64 wd, .int .i64 ht, .int .i64 y] 96)).alloc (.cells #[.int .i64 0, .int .i64 0, .int .i64 0, .int .i64 0] 59))
  have B2 := Lib.hid ((Blk.new w 96 #[.int .i64 side, .int .i64 clear, .int .i64 a, .int .i64 b, .int .i64 wd, .int .i64 ht, .int .i64 y]).alloc (.cells #[.int .i64 0, .int .i64 0, .int .i64 0, .int .i64 0] 59))
  have R2 := Lib.hid (blk_new1 w (.cells #[.int .i64 side, .int .i64 clear, .int .i64 a, .int .i64 b, .int .i64 wd, .int .i64 ht, .int .i64 y] 96) 59 #[.int .i64 0, .int .i64 0, .int .i64 0, .int .i64 0])
  have k0 := B2.out.cell 0
  have k1 := B2.out.cell 1
  have k2 := B2.out.cell 2
  have k3 := B2.out.cell 3
  have k4 := B2.out.cell 4
  have k5 := B2.out.cell 5
  have k6 := B2.out.cell 6
  simp at k0 k1 k2 k3 k4 k5 k6
  go_enter Try.func84, Try.ntmps84
  go_wp2_with fail
  refine (CF.out _ A2.out).mono ?_
  rintro e w3 ⟨rfl, hw3⟩
  clear k0 k1 k2 k3 k4 k5 k6
  have A4 := Lib.hid (show After w (w3.alloc (.cells #[.int .i64 x, .int .i64 z, .int .i64 r2, .int .i64 b2] 59)) from (A2.out.trans hw3).alloc _)
  have B4 := Lib.hid ((B2.out.after hw3).alloc (.cells #[.int .i64 x, .int .i64 z, .int .i64 r2, .int .i64 b2] 59))
  have R4 := Lib.hid ((R2.out.after hw3).alloc (.cells #[.int .i64 x, .int .i64 z, .int .i64 r2, .int .i64 b2] 59))
  have V4 := Lib.hid (Blk.new w3 59 #[.int .i64 x, .int .i64 z, .int .i64 r2, .int .i64 b2])
  have k0 := B4.out.cell 0
  simp at k0
  clear hw3 B2 R2 A2
  go_wp2_with fail
  refine (CP.out _ A4.out).mono ?_
  rintro e w5 ⟨rfl, g5, cap5, fv5, h5, O5, G5⟩
  clear k0
  have hSp := H.out.after A4.out
  have ap1 := hSp.apart R4.out (by decide) (by decide) (by decide) (by decide)
  have ap2 := hSp.apart V4.out (by decide) (by decide) (by decide) (by decide)
  have R5 := R4.out.only O5 ap1
  have V5 := V4.out.only O5 ap2
  have H5 := Lib.hid h5
  have HO5 := Lib.hid (show Only w w5 (owns S L g fv) from (A4.out.only _).trans O5 (fun _ _ h => h))
  have k0 := V5.cell 0
  have k1 := V5.cell 1
  have k2 := V5.cell 2
  have k3 := V5.cell 3
  have m0 := R5.cell 0
  have m1 := R5.cell 1
  have m2 := R5.cell 2
  have m3 := R5.cell 3
  have f0 := R5.frozen 0
  have f1 := R5.frozen 1
  have f2 := R5.frozen 2
  have f3 := R5.frozen 3
  simp at k0 k1 k2 k3 m0 m1 m2 m3
  obtain ⟨w6, hw6⟩ : ∃ w6, (((w5.setCell ⟨w.heap.size + 1, 0, none⟩ (.int .i64 x)).setCell ⟨w.heap.size + 1, 1, none⟩ (.int .i64 z)).setCell ⟨w.heap.size + 1, 2, none⟩ (.int .i64 r2)).setCell ⟨w.heap.size + 1, 3, none⟩ (.int .i64 b2) = w6 := ⟨_, rfl⟩
  have R6 : Blk w6 (w.heap.size + 1) 59 #[.int .i64 x, .int .i64 z, .int .i64 r2, .int .i64 b2] := hw6 ▸ (((R5.set_ 0 _).set_ 1 _).set_ 2 _).set_ 3 _
  have O6 : Only w5 w6 (· = w.heap.size + 1) := hw6 ▸ (((Only.setCell w5 ⟨w.heap.size + 1, 0, none⟩ _).trans (Only.setCell _ ⟨w.heap.size + 1, 1, none⟩ _) (fun _ _ h => h)).trans (Only.setCell _ ⟨w.heap.size + 1, 2, none⟩ _) (fun _ _ h => h)).trans (Only.setCell _ ⟨w.heap.size + 1, 3, none⟩ _) (fun _ _ h => h)
  have ap3 : ¬ owns S L g5 fv5 (w.heap.size + 1) := h5.apart R5 (by decide) (by decide) (by decide) (by decide)
  have H6 := Lib.hid (h5.only O6 (fun i hi e => ap3 (e ▸ hi)))
  have HO6 := Lib.hid (show Only w w6 (owns S L g fv) from HO5.out.trans O6 (fun i hi e => by have e' : i = w.heap.size + 1 := e; omega))
  have n0 := R6.cell 0
  have n1 := R6.cell 1
  have n2 := R6.cell 2
  have n3 := R6.cell 3
  simp at n0 n1 n2 n3
  clear R6 O6 R5 V5 h5 O5 G5 hSp ap1 ap2 ap3 H5 HO5
  go_wp2_with fail
  exact bodyPost_ret (v := .agg #[.int .i64 x, .int .i64 z, .int .i64 r2, .int .i64 b2]) (by simp [results, Try.results84, go_sem, n0, n1, n2, n3]) rfl ⟨rfl, _, _, _, H6.out, HO6.out⟩

/-! ### the example -/
def ex1 : Flt := ⟨1, 0, 0, 3, 2⟩
def ex2 : Flt := ⟨1, 3, 0, 6, 2⟩
def exFs : Nat → List Flt
  | 0 => []
  | 1 => [ex1]
  | _ => [ex1, ex2]
def exW : Array Value := #[.int .i64 1, .int .i64 0, .int .i64 0, .int .i64 10, .int .i64 3, .int .i64 2, .int .i64 0]

structure ExC (w0 : World) (S B k : Nat) (w : World) : Prop where
  sp : ∃ base L g cap fv, SpaceAt w base S L g cap fv (exFs k) ∧ w0.heap.size ≤ base
  bw : Blk w B 96 #[.int .i64 1, .int .i64 0, .int .i64 0, .int .i64 10, .int .i64 3, .int .i64 2, .int .i64 0]
  aft : After w0 w
def ExK (w w' : World) : Prop := w.heap.size ≤ w'.heap.size ∧ ∀ p cs, Blk w p 59 cs → Blk w' p 59 cs

theorem ExC.after {w0 : World} {S B k : Nat} {w w' : World} (h : ExC w0 S B k w) (a : After w w') : ExC w0 S B k w' := by
  obtain ⟨⟨base, L, g, cap, fv, hs, hb⟩, h2, h3⟩ := h
  exact ⟨⟨base, L, g, cap, fv, hs.after a, hb⟩, h2.after a, h3.trans a⟩

theorem ex_put {w0 : World} {S B k : Nat} {w : World} (h : ExC w0 S B k w) (hall : (exFs k).all smallF = true) (hlen : (exFs k).length ≤ 100000) (z x r2 b2 : Int)
    (hz : firstOf (exFs k) 2 (fitsP 1 0 10 3) (startP (exFs k) 0 0) = z) (hx : leftP 1 0 10 3 (bandAt (exFs k) z 2) = x) (hr : x + 3 = r2) (hb2 : z + 2 = b2) (hsm : smallF ⟨1, x, z, r2, b2⟩ = true) (hn : exFs k ++ [⟨1, x, z, r2, b2⟩] = exFs (k + 1)) :
    Calls Try.prog 84 #[.pointer (some ⟨S, 0, none⟩), .agg #[.int .i64 1, .int .i64 0, .int .i64 0, .int .i64 10, .int .i64 3, .int .i64 2, .int .i64 0]] w (fun e w' => e = .returned (.agg #[.int .i64 x, .int .i64 z, .int .i64 r2, .int .i64 b2]) ∧ ExC w0 S B (k + 1) w' ∧ ExK w w') := by
  obtain ⟨⟨base, L, g, cap, fv, hs, hb⟩, h2, h3⟩ := h
  have l48 : ∀ x : Int, -20 ≤ x → x ≤ 20 → L48 x := fun x h1 h2 => by unfold L48; omega
  refine (place_put (clear := 0) (a := 0) (b := 10) (wd := 3) (ht := 2) (y := 0) hs hall hlen (.inl rfl) (l48 _ (by decide) (by decide)) (l48 _ (by decide) (by decide)) (l48 _ (by decide) (by decide)) (l48 _ (by decide) (by decide)) (l48 _ (by decide) (by decide)) hz hx hr hb2 hsm).mono ?_
  rintro e w' ⟨he, g', cap', fv', hs', O⟩
  rw [hn] at hs'
  have apw := hs.apart h2 (by decide) (by decide) (by decide) (by decide)
  refine ⟨he, ⟨⟨base, L, g', cap', fv', hs', hb⟩, h2.only O apw, ((h3.only _).trans O (fun _ _ h => h)).after_of (fun i hi hS => by have := (hs.owns_lt hS).1; omega)⟩, O.size, fun p cs hp => ?_⟩
  exact hp.only O (hs.apart hp (by decide) (by decide) (by decide) (by decide))

set_option maxRecDepth 100000 in
set_option maxHeartbeats 4000000 in
theorem law11_speaks (w : World) : Calls Try.prog 58 #[] w (Ret (.bool true) w) := by
  have hmix := mixed
  have P1 := Lib.hid (fun (w0 : World) (S B : Nat) (w : World) (h : ExC w0 S B 0 w) => ex_put h (by decide) (by decide) 0 0 3 2 (by decide) (by decide) (by decide) (by decide) (by decide) (by rfl))
  have P2 := Lib.hid (fun (w0 : World) (S B : Nat) (w : World) (h : ExC w0 S B 1 w) => ex_put h (by decide) (by decide) 0 3 6 2 (by decide) (by decide) (by decide) (by decide) (by decide) (by rfl))
  go_enter Try.func58, Try.ntmps58
  go_wp2_with fail
  refine (space_new _).mono ?_
  rintro e w1 ⟨S, L, g, cap, fv, rfl, hs, hw1⟩
  have H2 := Lib.hid (show ExC w S w1.heap.size 0 (w1.alloc (.cells #[.int .i64 1, .int .i64 0, .int .i64 0, .int .i64 10, .int .i64 3, .int .i64 2, .int .i64 0] 96)) from
    ⟨⟨_, _, _, _, _, hs.after ((After.refl w1).alloc _), Nat.le_refl _⟩, Blk.new w1 _ _, hw1.alloc _⟩)
  clear hs
  go_wp2_with fail
  generalize hw2 : w1.alloc (.cells #[.int .i64 1, .int .i64 0, .int .i64 0, .int .i64 10, .int .i64 3, .int .i64 2, .int .i64 0] 96) = w2 at H2 ⊢
  have hcl : Classes (ExC w S w1.heap.size) ExK [(6, .cells #[.int .i64 0, .int .i64 0, .int .i64 0, .int .i64 0] 59), (7, .cells #[.int .i64 0, .int .i64 0, .int .i64 0, .int .i64 0] 59)] :=
    ⟨fun k w' h x _ => h.after ((After.refl w').alloc _), fun w' => ⟨Nat.le_refl _, fun _ _ h => h⟩, fun _ _ h => h.1, fun _ _ h x hx p hp => by
      simp at hx
      rcases hx with rfl | rfl <;> exact h.2 p _ hp⟩
  refine wp_region_chain 8 [(6, .cells #[.int .i64 0, .int .i64 0, .int .i64 0, .int .i64 0] 59), (7, .cells #[.int .i64 0, .int .i64 0, .int .i64 0, .int .i64 0] 59)] [2, 5] hmix (by kernel_rfl)
    (lays_of (by decide) (by kernel_rfl) (lays_cons rfl rfl (fun _ => rfl) (al_rect _ rfl) (lays_cons rfl rfl (fun _ => rfl) (al_rect _ rfl) (fun x hx => by cases hx)))) hcl (H2.out.after (After.refl w2).drew) ?_
  simp only [List.take_succ_cons, List.take_zero, List.drop_succ_cons, List.drop_zero]
  refine wpChain_step (.pointer (some ⟨S, 0, none⟩)) rfl rfl (by go_simp) (fun k w' hw' => by go_simp) ?_
  refine wpChain_step (.agg #[.int .i64 1, .int .i64 0, .int .i64 0, .int .i64 10, .int .i64 3, .int .i64 2, .int .i64 0]) rfl rfl (by go_simp) (fun k w' hw' => by
    have hb := hw'.bw
    have c0 := hb.cell 0
    have c1 := hb.cell 1
    have c2 := hb.cell 2
    have c3 := hb.cell 3
    have c4 := hb.cell 4
    have c5 := hb.cell 5
    have c6 := hb.cell 6
    simp at c0 c1 c2 c3 c4 c5 c6
    go_simp) ?_
  refine wpChain_call (.agg #[.int .i64 0, .int .i64 0, .int .i64 3, .int .i64 2]) rfl rfl (by go_simp) (fun w' hw' => ⟨84, #[.pointer (some ⟨S, 0, none⟩), .agg #[.int .i64 1, .int .i64 0, .int .i64 0, .int .i64 10, .int .i64 3, .int .i64 2, .int .i64 0]], by go_simp, P1.out _ _ _ _ hw'⟩) ?_
  refine wpChain_step (.pointer (some ⟨S, 0, none⟩)) rfl rfl (by go_simp) (fun k w' hw' => by go_simp) ?_
  refine wpChain_step (.agg #[.int .i64 1, .int .i64 0, .int .i64 0, .int .i64 10, .int .i64 3, .int .i64 2, .int .i64 0]) rfl rfl (by go_simp) (fun k w' hw' => by
    have hb := hw'.bw
    have c0 := hb.cell 0
    have c1 := hb.cell 1
    have c2 := hb.cell 2
    have c3 := hb.cell 3
    have c4 := hb.cell 4
    have c5 := hb.cell 5
    have c6 := hb.cell 6
    simp at c0 c1 c2 c3 c4 c5 c6
    go_simp) ?_
  refine wpChain_call (.agg #[.int .i64 3, .int .i64 0, .int .i64 6, .int .i64 2]) rfl rfl (by go_simp) (fun w' hw' => ⟨84, #[.pointer (some ⟨S, 0, none⟩), .agg #[.int .i64 1, .int .i64 0, .int .i64 0, .int .i64 10, .int .i64 3, .int .i64 2, .int .i64 0]], by go_simp, P2.out _ _ _ _ hw'⟩) ?_
  refine wpChain_al rfl ?_
  refine wpChain_al rfl ?_
  refine wpChain_nil ?_
  intro P Q w5 hL
  obtain ⟨hC, hblk, hne⟩ := hL
  have bP0 := hblk (6, .cells #[.int .i64 0, .int .i64 0, .int .i64 0, .int .i64 0] 59) (by simp)
  have bQ0 := hblk (7, .cells #[.int .i64 0, .int .i64 0, .int .i64 0, .int .i64 0] 59) (by simp)
  have hPQ0 := hne (6, .cells #[.int .i64 0, .int .i64 0, .int .i64 0, .int .i64 0] 59) (by simp) (7, .cells #[.int .i64 0, .int .i64 0, .int .i64 0, .int .i64 0] 59) (by simp) (by decide)
  simp [upd] at bP0 bQ0 hPQ0
  obtain ⟨bP1, hPl⟩ := bP0
  obtain ⟨bQ1, hQl⟩ := bQ0
  have bP : Blk w5 P 59 #[.int .i64 0, .int .i64 0, .int .i64 0, .int .i64 0] := bP1
  have bQ : Blk w5 Q 59 #[.int .i64 0, .int .i64 0, .int .i64 0, .int .i64 0] := bQ1
  have hPQ : P ≠ Q := hPQ0
  have A5 := hC.aft
  have hl2 : w.heap.size ≤ w2.heap.size := H2.out.aft.size
  clear hblk hne hC bP1 bQ1 hPQ0
  have k0 := bP.cell 0
  have k1 := bP.cell 1
  have k2 := bP.cell 2
  have k3 := bP.cell 3
  have f0 := bP.frozen 0
  have f1 := bP.frozen 1
  have f2 := bP.frozen 2
  have f3 := bP.frozen 3
  obtain ⟨w6, hw6⟩ : ∃ w6, (((w5.setCell ⟨P, 0, none⟩ (.int .i64 0)).setCell ⟨P, 1, none⟩ (.int .i64 0)).setCell ⟨P, 2, none⟩ (.int .i64 3)).setCell ⟨P, 3, none⟩ (.int .i64 2) = w6 := ⟨_, rfl⟩
  have bP6 : Blk w6 P 59 #[.int .i64 0, .int .i64 0, .int .i64 3, .int .i64 2] := hw6 ▸ (((bP.set_ 0 _).set_ 1 _).set_ 2 _).set_ 3 _
  have bQ6 : Blk w6 Q 59 #[.int .i64 0, .int .i64 0, .int .i64 0, .int .i64 0] := hw6 ▸ (((bQ.far (p := ⟨P, 0, none⟩) (Ne.symm hPQ) _).far (p := ⟨P, 1, none⟩) (Ne.symm hPQ) _).far (p := ⟨P, 2, none⟩) (Ne.symm hPQ) _).far (p := ⟨P, 3, none⟩) (Ne.symm hPQ) _
  have hp : w.heap.size ≤ P := by omega
  have hq : w.heap.size ≤ Q := by omega
  have A6 : After w w6 := hw6 ▸ (((A5.setCell hp _).setCell hp _).setCell hp _).setCell hp _
  have m0 := bQ6.cell 0
  have m1 := bQ6.cell 1
  have m2 := bQ6.cell 2
  have m3 := bQ6.cell 3
  have g0 := bQ6.frozen 0
  have g1 := bQ6.frozen 1
  have g2 := bQ6.frozen 2
  have g3 := bQ6.frozen 3
  obtain ⟨w7, hw7⟩ : ∃ w7, (((w6.setCell ⟨Q, 0, none⟩ (.int .i64 3)).setCell ⟨Q, 1, none⟩ (.int .i64 0)).setCell ⟨Q, 2, none⟩ (.int .i64 6)).setCell ⟨Q, 3, none⟩ (.int .i64 2) = w7 := ⟨_, rfl⟩
  have bP7 : Blk w7 P 59 #[.int .i64 0, .int .i64 0, .int .i64 3, .int .i64 2] := hw7 ▸ (((bP6.far (p := ⟨Q, 0, none⟩) hPQ _).far (p := ⟨Q, 1, none⟩) hPQ _).far (p := ⟨Q, 2, none⟩) hPQ _).far (p := ⟨Q, 3, none⟩) hPQ _
  have bQ7 : Blk w7 Q 59 #[.int .i64 3, .int .i64 0, .int .i64 6, .int .i64 2] := hw7 ▸ (((bQ6.set_ 0 _).set_ 1 _).set_ 2 _).set_ 3 _
  have A7 := Lib.hid (show After w w7 from hw7 ▸ (((A6.setCell hq _).setCell hq _).setCell hq _).setCell hq _)
  have n0 := bP7.cell 0
  have n1 := bP7.cell 1
  have n2 := bP7.cell 2
  have n3 := bP7.cell 3
  have o0 := bQ7.cell 0
  have o1 := bQ7.cell 1
  have o2 := bQ7.cell 2
  have o3 := bQ7.cell 3
  simp at k0 k1 k2 k3 m0 m1 m2 m3 n0 n1 n2 n3 o0 o1 o2 o3
  clear bP bQ bP6 bQ6 bP7 bQ7 A5 A6 hl2 hp hq hPQ
  go_simp
  go_wp2_with fail
  go_ret
  exact ⟨rfl, A7.out⟩
end Go.Proofs.Ytefbeekjoafijaa
