/- (*Space).Put: a float more. -/
import Derived.Test.YtefbeekjoafijaaSpace
namespace Go.Proofs.Ytefbeekjoafijaa
open Go.RowKit Go.Sort

theorem info_fl : (Try.prog.info? 84).map (fun i => (i.zero, i.size, i.bytes)) = some (some (.agg #[.int .i64 0, .int .i64 0, .int .i64 0, .int .i64 0, .int .i64 0]), 5, 40) := by kernel_rfl
theorem flCells_ints (f : Flt) : ∀ u ∈ flCells f, ∃ n : Int, u = .int .i64 n := by
  intro u hs
  simp [flCells] at hs
  rcases hs with rfl | rfl | rfl | rfl | rfl <;> exact ⟨_, rfl⟩
theorem flRow_ints (xs : List Flt) : ∀ u ∈ flRow xs, ∃ n : Int, u = .int .i64 n := by
  intro u hu
  obtain ⟨s, _, hs⟩ := List.mem_flatMap.1 hu
  exact flCells_ints s u hs

theorem Only.of_grownOwn {w w' : World} {own : Option Nat} (h : w.grownBy w' own) (hd : w.drawn ≤ w'.drawn) : Only w w' (fun k => own = some k) :=
  ⟨h.os, h.tape, h.output, h.size, hd, fun k hk hs => h.block k hk (fun e => hs e.symm)⟩
theorem lastOf_snoc (fs : List Flt) (f : Flt) : lastOf (fs ++ [f]) = reachE (lastOf fs) f.t := by simp [lastOf]
theorem botOf_snoc (c : Int) (fs : List Flt) (f : Flt) : botOf c (fs ++ [f]) = if clearsB c f.side then reachE (botOf c fs) f.b else botOf c fs := by simp [botOf]

def sC (L : Nat) (fv : Value) (e e0 e1 e2 e3 : Option Int) : Array Value :=
  #[.pointer (some ⟨L, 0, none⟩), fv, .int .i64 (eAt e), .bool e.isSome, .int .i64 (eAt e0), .bool e0.isSome, .int .i64 (eAt e1), .bool e1.isSome, .int .i64 (eAt e2), .bool e2.isSome, .int .i64 (eAt e3), .bool e3.isSome]

def PutPost (w : World) (base S L g : Nat) (fv : Value) (fs : List Flt) (e : Ending) (w' : World) : Prop :=
  e = .returned (.tuple #[]) ∧ ∃ g' cap' fv', SpaceAt w' base S L g' cap' fv' fs ∧ Only w w' (owns S L g fv) ∧ ∀ k, owns S L g' fv' k → owns S L g fv k ∨ w.heap.size ≤ k

def PutRel (S : Nat) (A B C : Array Value) (v : Value) (w wr : World) : Prop :=
  ∃ k : Nat, v = .int .i64 (k : Int) ∧ k ≤ 2 ∧ Blk wr S 111 (if k = 0 then A else if k = 1 then B else C) ∧ Only w wr (· = S)

set_option maxRecDepth 100000 in
set_option maxHeartbeats 8000000 in
theorem put_any {w : World} {base S L g cap : Nat} {fv : Value} {fs : List Flt} (h : SpaceAt w base S L g cap fv fs) (hn : fs.length ≤ 100000) (side l t r b : Int) (hside : side = 1 ∨ side = 2) (hsm : smallF ⟨side, l, t, r, b⟩ = true) :
    Calls Try.prog 45 #[.pointer (some ⟨S, 0, none⟩), .int .i64 side, .agg #[.int .i64 l, .int .i64 t, .int .i64 r, .int .i64 b]] w (PutPost w base S L g fv (fs ++ [⟨side, l, t, r, b⟩])) := by
  obtain ⟨i0, hi, hz0, hz1, hz2⟩ := info_parts info_fl
  have hmix := mixed
  have H := Lib.hid h
  have hSL := h.ne_L
  have hSg := h.ne_g
  have hSlt := h.obj.lt
  have hfv := Lib.hid (fun b (hb : fv.ownBlock = some b) => h.fv_ne hb)
  clear h
  rcases hside with rfl | rfl
  · go_enter Try.func45, Try.ntmps45
    go_wp2_with fail
    refine name_world (fun W1 hW1 => ?_)
    have A1 : After w W1 := by rw [hW1]; exact (After.refl _).alloc _
    have b1 : Blk W1 w.heap.size 59 #[.int .i64 l, .int .i64 t, .int .i64 r, .int .i64 b] := by rw [hW1]; exact Blk.new _ _ _
    have H1 := Lib.hid (H.out.after A1)
    clear hW1
    have o1 := H1.out.obj
    unfold sCells at o1
    have k0 := o1.cell 0
    have k1 := o1.cell 1
    have r0 := b1.cell 0
    have r1 := b1.cell 1
    have r2 := b1.cell 2
    have r3 := b1.cell 3
    have ka := fun o => (o1.alloc o).cell 1
    simp at k0 k1 ka r0 r1 r2 r3
    have hrow : ∀ o, ((W1.alloc o).drew).ownsRow base 84 5 fv fs.length (flRow fs) := fun o => ownsRow_kept H1.out.row (((After.refl W1).alloc o).drew.only (fun _ => False)) (fun _ _ h => h)
    have hnew : ∀ (j : Nat) (u : Value), (flCells ⟨1, l, t, r, b⟩)[j]? = some u → ((W1.alloc (.cells #[.int .i64 1, .int .i64 l, .int .i64 t, .int .i64 r, .int .i64 b] 84)).drew).cell? ((⟨W1.heap.size, 0, none⟩ : Addr).add j) = some u :=
      World.news_of_block (Blk.new W1 84 #[.int .i64 1, .int .i64 l, .int .i64 t, .int .i64 r, .int .i64 b])
    have HR := Lib.hid hrow
    have HN := Lib.hid hnew
    have HO := Lib.hid (oneCell_int _ (flCells_ints ⟨1, l, t, r, b⟩))
    have HA := Lib.hid (show fs.length + 1 ≤ maxLen by unfold maxLen; omega)
    have HB := Lib.hid (show (fs.length + 1) * 40 ≤ 140737488355328 by omega)
    have hb1 : ∀ o, base ≤ ((W1.alloc o).drew).heap.size := fun o => by
      show base ≤ (W1.alloc o).heap.size
      rw [World.size_alloc]; have := H.out.low; have := A1.size; omega
    have HBS := Lib.hid hb1
    have o4 : ∀ (w4 : World) c, ((W1.alloc (.cells c 84)).drew).grownBy w4 fv.ownBlock → Blk w4 S 111 (sCells L fv fs) := fun w4 c hg4 =>
      (H1.out.obj.alloc _).same (hg4.block S (by show S < (W1.alloc _).heap.size; rw [World.size_alloc]; have := H1.out.obj.lt; omega) (fun e => (hfv.out S e.symm).1 rfl))
    have HO4 := Lib.hid o4
    clear hrow hnew hb1 o1 o4
    go_region_law (refine step_append_mine _ rfl _ _ 81 rfl base 84 i0 _ 5 40 Try.underlying81 hi hz0 hz1 hz2 rfl (by decide) fv fs.length (flRow fs) rfl (HR.out _) ⟨W1.heap.size, 0, none⟩ 1 1 (flCells ⟨1, l, t, r, b⟩) rfl rfl HN.out HO.out (by decide) HA.out HB.out (HBS.out _) ?_; intro g' cap' w1 hown1 hgrow1 hat1 hlt1 hdr1; have s4 := HO4.out _ _ hgrow1; have q1 := s4.cell 1; have f1 := s4.frozen 1; simp [sCells] at q1)
    all_goals
      obtain ⟨fv', hfv'⟩ : ∃ fv', fv' = Value.slice (some ⟨g', 0, none⟩) (fs.length + 1) cap' := ⟨_, rfl⟩
      have e1 : Only W1 ((W1.alloc (.cells #[.int .i64 1, .int .i64 l, .int .i64 t, .int .i64 r, .int .i64 b] 84)).drew) (owns S L g fv) := ((After.refl W1).alloc _).drew.only _
      have e2 := (e1.trans (Only.of_grownOwn hgrow1 hdr1) (fun _ _ h => .inr (.inr (.inr h)))).trans (Only.setCell w1 ⟨S, 1, none⟩ (.slice (some ⟨g', 0, none⟩) (fs.length + 1) cap')) (fun _ _ h => .inl h)
      have e3 : Only W1 (w1.setCell ⟨S, 1, none⟩ (.slice (some ⟨g', 0, none⟩) (fs.length + 1) cap')) (fun k => k = S ∨ fv.ownBlock = some k) :=
        ((((After.refl W1).alloc _).drew.only _).trans (Only.of_grownOwn hgrow1 hdr1) (fun _ _ h => .inr h)).trans (Only.setCell w1 ⟨S, 1, none⟩ (.slice (some ⟨g', 0, none⟩) (fs.length + 1) cap')) (fun _ _ h => .inl h)
      have g'S : g' ≠ S := by
        obtain ⟨cur, _, hg, _⟩ := ownsRow_get hown1
        exact (show Blk w1 g' 84 cur from hg).ne_ s4 (by decide)
      have own4 := ownsRow_only hown1 (Only.setCell w1 ⟨S, 1, none⟩ (.slice (some ⟨g', 0, none⟩) (fs.length + 1) cap')) g'S
      have s5 := s4.set_ 1 (.slice (some ⟨g', 0, none⟩) (fs.length + 1) cap')
      have hg' : fv.ownBlock = some g' ∨ w.heap.size ≤ g' := by
        rcases hat1 with h | h
        · exact .inl h
        · right
          rw [h]
          show w.heap.size ≤ (W1.alloc _).heap.size
          rw [World.size_alloc]; have := A1.size; omega
      go_wp2_with fail
      refine name_world (fun W4 hW4 => ?_)
      rw [← hW4] at e2 e3 own4 s5
      rw [← hfv'] at own4 s5
      clear hW4
      have b4 : Blk W4 S 111 (sC L fv' (lastOf fs) (botOf 0 fs) (botOf 1 fs) (botOf 2 fs) (botOf 3 fs)) := s5
      have hwlt : ¬ owns S L g fv w.heap.size := fun h => by have := (H.out.owns_lt h).2; omega
      have r4 := b1.only e2 hwlt
      have l4 : ListAt W4 base L g cap (shelvesOf fs) := by
        have hT : ∀ b, b = L ∨ b = g → ¬ (b = S ∨ fv.ownBlock = some b) := by
          intro b hb hS
          rcases hS with h | h
          · rcases hb with rfl | rfl
            · exact hSL h.symm
            · exact hSg h.symm
          · have := hfv.out b h
            rcases hb with rfl | rfl
            · exact this.2.1 rfl
            · exact this.2.2 rfl
        exact ⟨H1.out.list.obj.only e3 (hT _ (.inl rfl)), ownsRow_only H1.out.list.row e3 (hT _ (.inr rfl)), H1.out.list.low, H1.out.list.ne, H1.out.list.rising, H1.out.list.small⟩
      have hl4 := Lib.hid l4
      have P4 := Lib.hid ((A1.only _).trans e2 (fun _ _ h => h))
      have hE3 := Lib.hid e3
      have hOwn4 := Lib.hid own4
      have hG' := Lib.hid hg'
      have HB4 := Lib.hid b4
      have k0 := b4.cell 0
      have k1 := r4.cell 0
      have k2 := r4.cell 1
      have k3 := r4.cell 2
      have k4 := r4.cell 3
      simp [sC] at k0 k1 k2 k3 k4
      have q0 := fun n os => cell_grown (w := W4) b4.lt k0 n os
      have q1 := fun n os => cell_grown (w := W4) r4.lt k1 n os
      have q2 := fun n os => cell_grown (w := W4) r4.lt k2 n os
      have q3 := fun n os => cell_grown (w := W4) r4.lt k3 n os
      have q4 := fun n os => cell_grown (w := W4) r4.lt k4 n os
      clear l4 e1 e2 e3 own4 s5 hg' b4 k0 k1 k2 k3 k4 hgrow1 hdr1 hat1 hlt1 s4 hown1
      refine wp_region_quiet_tail 6 (by assumption) (by kernel_rfl) ?_
      simp only [List.take_succ_cons, List.take_zero, List.drop_succ_cons, List.drop_zero]
      repeat (quiet_step (fail))
      refine wpQuiet_nil ?_
      rintro _ ⟨p, rfl⟩
      generalize hw5 : grow (W4.drewN p.n) p.os = w5
      have A5 : After W4 w5 := hw5 ▸ After.of_grown _ _
      clear hw5 q0 q1 q2 q3 q4
      go_wp2_with fail
      refine (add_next (hl4.out.after A5) (by omega) ⟨1, l, t, r, b⟩ hsm).mono ?_
      rintro e w6 ⟨rfl, g6, cap6, l6, O6, G6⟩
      have hl6 := Lib.hid l6
      have HG6 := Lib.hid G6
      have HO6 := Lib.hid O6
      clear l6
      have b6 := (HB4.out.after A5).only O6 (by rintro (h | h); exact hSL h; exact hSg h)
      have r6 := (r4.after A5).only O6 (fun h => hwlt (by rcases h with h | h; exact .inr (.inl h); exact .inr (.inr (.inl h))))
      have HB6 := Lib.hid b6
      have k1 := r6.cell 0
      have k2 := r6.cell 1
      have k3 := r6.cell 2
      have k4 := r6.cell 3
      simp at k1 k2 k3 k4
      have q1 := fun n os => cell_grown (w := w6) r6.lt k1 n os
      have q2 := fun n os => cell_grown (w := w6) r6.lt k2 n os
      have q3 := fun n os => cell_grown (w := w6) r6.lt k3 n os
      have q4 := fun n os => cell_grown (w := w6) r6.lt k4 n os
      clear G6 O6 b6 k1 k2 k3 k4
      go_wp2_with fail
      refine wp_region_quiet_tail 5 (by assumption) (by kernel_rfl) ?_
      simp only [List.take_succ_cons, List.take_zero, List.drop_succ_cons, List.drop_zero]
      repeat (quiet_step (fail))
      refine wpQuiet_nil ?_
      rintro _ ⟨p, rfl⟩
      generalize hw7 : grow (w6.drewN p.n) p.os = w7
      have A7 : After w6 w7 := hw7 ▸ After.of_grown _ _
      clear hw7 q1 q2 q3 q4
      go_wp2_with fail
      refine (edge_reach (HB6.out.after A7) 2 (lastOf fs) rfl rfl _).mono ?_
      rintro e w8 ⟨rfl, b8, O8⟩
      have r8 := (r6.after A7).only O8 (by omega)
      have b8' : Blk w8 S 111 (sC L fv' (reachE (lastOf fs) t) (botOf 0 fs) (botOf 1 fs) (botOf 2 fs) (botOf 3 fs)) := b8
      have HB8 := Lib.hid b8'
      have HO8 := Lib.hid O8
      have HA7 := Lib.hid A7
      clear b8 b8' O8 A7
      go_wp2_with fail
      refine name_world (fun W9 hW9 => ?_)
      have A9 : After w8 W9 := by rw [hW9]; exact (After.refl _).alloc _
      have v9 : Blk W9 w8.heap.size 3 #[.int .i64 1, .int .i64 3] := by rw [hW9]; exact Blk.new _ _ _
      have r9 := r8.after A9
      have hvS : w8.heap.size ≠ S := by have := HB8.out.lt; omega
      have hrS : w.heap.size ≠ S := by omega
      clear hW9
      go_loopw [36] (fun v wr => PutRel S (sC L fv' (reachE (lastOf fs) t) (botOf 0 fs) (botOf 1 fs) (botOf 2 fs) (botOf 3 fs)) (sC L fv' (reachE (lastOf fs) t) (botOf 0 fs) (reachE (botOf 1 fs) b) (botOf 2 fs) (botOf 3 fs)) (sC L fv' (reachE (lastOf fs) t) (botOf 0 fs) (reachE (botOf 1 fs) b) (botOf 2 fs) (reachE (botOf 3 fs) b)) v W9 wr) (fun v _ => 3 - (intOf v).toNat)
      case atStart => exact ⟨0, rfl, by decide, HB8.out.after A9, Only.refl _ _⟩
      case round =>
        obtain ⟨k, rfl, hk, bk, hO⟩ := hrel
        have vk := v9.only hO hvS
        have rk := r9.only hO hrS
        have v0 := vk.cell 0
        have v1 := vk.cell 1
        have k1 := rk.cell 0
        have k2 := rk.cell 1
        have k3 := rk.cell 2
        have k4 := rk.cell 3
        simp at k1 k2 k3 k4 v0 v1
        have q1 := fun n os => cell_grown (w := wr) rk.lt k1 n os
        have q2 := fun n os => cell_grown (w := wr) rk.lt k2 n os
        have q3 := fun n os => cell_grown (w := wr) rk.lt k3 n os
        have q4 := fun n os => cell_grown (w := wr) rk.lt k4 n os
        rcases (show k = 0 ∨ k = 1 ∨ k = 2 by omega) with rfl | rfl | rfl
        · have bk' : Blk wr S 111 (sC L fv' (reachE (lastOf fs) t) (botOf 0 fs) (botOf 1 fs) (botOf 2 fs) (botOf 3 fs)) := bk
          have HBk := Lib.hid bk'
          clear bk bk'
          go_wp2_with fail
          refine wp_region_quiet_tail 7 (by assumption) (by kernel_rfl) ?_
          simp only [List.take_succ_cons, List.take_zero, List.drop_succ_cons, List.drop_zero]
          repeat (quiet_step (fail))
          refine wpQuiet_nil ?_
          rintro _ ⟨p, rfl⟩
          generalize hwn : grow (wr.drewN p.n) p.os = wn
          have An : After wr wn := hwn ▸ After.of_grown _ _
          clear hwn q1 q2 q3 q4
          go_wp2_with fail
          refine (edge_reach (HBk.out.after An) 6 (botOf 1 fs) rfl rfl _).mono ?_
          rintro e wm ⟨rfl, bm, Om⟩
          have HBm := Lib.hid (show Blk wm S 111 (sC L fv' (reachE (lastOf fs) t) (botOf 0 fs) (reachE (botOf 1 fs) b) (botOf 2 fs) (botOf 3 fs)) from bm)
          have HOm := Lib.hid ((hO.then_after An).trans Om (fun _ _ h => h))
          clear bm Om An hO
          go_wp2_with fail
          go_roundw
          case rel => exact ⟨1, rfl, by decide, HBm.out, HOm.out⟩
          case measure => decide
        · have bk' : Blk wr S 111 (sC L fv' (reachE (lastOf fs) t) (botOf 0 fs) (reachE (botOf 1 fs) b) (botOf 2 fs) (botOf 3 fs)) := bk
          have HBk := Lib.hid bk'
          clear bk bk'
          go_wp2_with fail
          refine wp_region_quiet_tail 7 (by assumption) (by kernel_rfl) ?_
          simp only [List.take_succ_cons, List.take_zero, List.drop_succ_cons, List.drop_zero]
          repeat (quiet_step (fail))
          refine wpQuiet_nil ?_
          rintro _ ⟨p, rfl⟩
          generalize hwn : grow (wr.drewN p.n) p.os = wn
          have An : After wr wn := hwn ▸ After.of_grown _ _
          clear hwn q1 q2 q3 q4
          go_wp2_with fail
          refine (edge_reach (HBk.out.after An) 10 (botOf 3 fs) rfl rfl _).mono ?_
          rintro e wm ⟨rfl, bm, Om⟩
          have HBm := Lib.hid (show Blk wm S 111 (sC L fv' (reachE (lastOf fs) t) (botOf 0 fs) (reachE (botOf 1 fs) b) (botOf 2 fs) (reachE (botOf 3 fs) b)) from bm)
          have HOm := Lib.hid ((hO.then_after An).trans Om (fun _ _ h => h))
          clear bm Om An hO
          go_wp2_with fail
          go_roundw
          case rel => exact ⟨2, rfl, by decide, HBm.out, HOm.out⟩
          case measure => decide
        · have bk' : Blk wr S 111 (sC L fv' (reachE (lastOf fs) t) (botOf 0 fs) (reachE (botOf 1 fs) b) (botOf 2 fs) (reachE (botOf 3 fs) b)) := bk
          have HBk := Lib.hid bk'
          clear bk bk' q1 q2 q3 q4
          go_wp2_with fail
          go_end0
          have o46 : Only W4 w6 (owns S L g fv) := ((A5.only (owns S L g fv)).trans HO6.out (fun i _ hS => by
            rcases hS with h | h
            · exact .inr (.inl h)
            · exact .inr (.inr (.inl h))))
          have o4r : Only W4 wr (fun k => k = S ∨ k = L ∨ k = g) := ((((A5.only _).trans HO6.out (fun _ _ h => .inr h)).then_after HA7.out).trans HO8.out (fun _ _ h => .inl h)).then_after A9 |>.trans hO (fun _ _ h => .inl h)
          have o6r : Only w6 wr (· = S) := ((HA7.out.only _).trans HO8.out (fun _ _ h => h)).then_after A9 |>.trans hO (fun _ _ h => h)
          refine ⟨rfl, g6, cap6, fv', ⟨?_, ?_, ?_, H.out.low, fun e => by simp at e⟩, ?_, ?_⟩
          · have e0 : clearsB 0 1 = false := by decide
            have e1 : clearsB 1 1 = true := by decide
            have e2 : clearsB 2 1 = false := by decide
            have e3 : clearsB 3 1 = true := by decide
            unfold sCells
            rw [lastOf_snoc, botOf_snoc, botOf_snoc, botOf_snoc, botOf_snoc]
            dsimp only
            rw [e0, e1, e2, e3]
            exact HBk.out
          · have hg6S : g6 ≠ S := by
              obtain ⟨cur, _, hg, _⟩ := ownsRow_get hl6.out.row
              exact (show Blk w6 g6 32 cur from hg).ne_ HB6.out (by decide)
            exact ⟨hl6.out.obj.only o6r (fun h => hSL h.symm), ownsRow_only hl6.out.row o6r hg6S, hl6.out.low, hl6.out.ne, hl6.out.rising, hl6.out.small⟩
          · rw [List.length_append, flRow_append, flRow_one]
            have hh := hOwn4.out
            rw [hfv'] at hh ⊢
            have g'L : g' ≠ L ∧ g' ≠ g := by
              obtain ⟨cur, _, hg, _⟩ := ownsRow_get hh
              obtain ⟨cur2, _, hg2, _⟩ := ownsRow_get hl4.out.row
              exact ⟨(show Blk W4 g' 84 cur from hg).ne_ hl4.out.obj (by decide), (show Blk W4 g' 84 cur from hg).ne_ (show Blk W4 g 32 cur2 from hg2) (by decide)⟩
            exact ownsRow_only hh o4r (by rintro (h | h | h); exact g'S h; exact g'L.1 h; exact g'L.2 h)
          · exact P4.out.trans o4r (fun i hi h => by
              rcases h with h | h | h
              · exact .inl h
              · exact .inr (.inl h)
              · exact .inr (.inr (.inl h)))
          · intro k hk
            rcases hk with h | h | h | h
            · exact .inl (.inl h)
            · exact .inl (.inr (.inl h))
            · subst h
              rcases HG6.out with h | h
              · exact .inl (.inr (.inr (.inl h)))
              · right; have := P4.out.size; have := A5.size; omega
            · rw [hfv'] at h
              have e : g' = k := by injection h
              subst e
              rcases hG'.out with h | h
              · exact .inl (.inr (.inr (.inr h)))
              · exact .inr h
  · go_enter Try.func45, Try.ntmps45
    go_wp2_with fail
    refine name_world (fun W1 hW1 => ?_)
    have A1 : After w W1 := by rw [hW1]; exact (After.refl _).alloc _
    have b1 : Blk W1 w.heap.size 59 #[.int .i64 l, .int .i64 t, .int .i64 r, .int .i64 b] := by rw [hW1]; exact Blk.new _ _ _
    have H1 := Lib.hid (H.out.after A1)
    clear hW1
    have o1 := H1.out.obj
    unfold sCells at o1
    have k0 := o1.cell 0
    have k1 := o1.cell 1
    have r0 := b1.cell 0
    have r1 := b1.cell 1
    have r2 := b1.cell 2
    have r3 := b1.cell 3
    have ka := fun o => (o1.alloc o).cell 1
    simp at k0 k1 ka r0 r1 r2 r3
    have hrow : ∀ o, ((W1.alloc o).drew).ownsRow base 84 5 fv fs.length (flRow fs) := fun o => ownsRow_kept H1.out.row (((After.refl W1).alloc o).drew.only (fun _ => False)) (fun _ _ h => h)
    have hnew : ∀ (j : Nat) (u : Value), (flCells ⟨2, l, t, r, b⟩)[j]? = some u → ((W1.alloc (.cells #[.int .i64 2, .int .i64 l, .int .i64 t, .int .i64 r, .int .i64 b] 84)).drew).cell? ((⟨W1.heap.size, 0, none⟩ : Addr).add j) = some u :=
      World.news_of_block (Blk.new W1 84 #[.int .i64 2, .int .i64 l, .int .i64 t, .int .i64 r, .int .i64 b])
    have HR := Lib.hid hrow
    have HN := Lib.hid hnew
    have HO := Lib.hid (oneCell_int _ (flCells_ints ⟨2, l, t, r, b⟩))
    have HA := Lib.hid (show fs.length + 1 ≤ maxLen by unfold maxLen; omega)
    have HB := Lib.hid (show (fs.length + 1) * 40 ≤ 140737488355328 by omega)
    have hb1 : ∀ o, base ≤ ((W1.alloc o).drew).heap.size := fun o => by
      show base ≤ (W1.alloc o).heap.size
      rw [World.size_alloc]; have := H.out.low; have := A1.size; omega
    have HBS := Lib.hid hb1
    have o4 : ∀ (w4 : World) c, ((W1.alloc (.cells c 84)).drew).grownBy w4 fv.ownBlock → Blk w4 S 111 (sCells L fv fs) := fun w4 c hg4 =>
      (H1.out.obj.alloc _).same (hg4.block S (by show S < (W1.alloc _).heap.size; rw [World.size_alloc]; have := H1.out.obj.lt; omega) (fun e => (hfv.out S e.symm).1 rfl))
    have HO4 := Lib.hid o4
    clear hrow hnew hb1 o1 o4
    go_region_law (refine step_append_mine _ rfl _ _ 81 rfl base 84 i0 _ 5 40 Try.underlying81 hi hz0 hz1 hz2 rfl (by decide) fv fs.length (flRow fs) rfl (HR.out _) ⟨W1.heap.size, 0, none⟩ 1 1 (flCells ⟨2, l, t, r, b⟩) rfl rfl HN.out HO.out (by decide) HA.out HB.out (HBS.out _) ?_; intro g' cap' w1 hown1 hgrow1 hat1 hlt1 hdr1; have s4 := HO4.out _ _ hgrow1; have q1 := s4.cell 1; have f1 := s4.frozen 1; simp [sCells] at q1)
    all_goals
      obtain ⟨fv', hfv'⟩ : ∃ fv', fv' = Value.slice (some ⟨g', 0, none⟩) (fs.length + 1) cap' := ⟨_, rfl⟩
      have e1 : Only W1 ((W1.alloc (.cells #[.int .i64 2, .int .i64 l, .int .i64 t, .int .i64 r, .int .i64 b] 84)).drew) (owns S L g fv) := ((After.refl W1).alloc _).drew.only _
      have e2 := (e1.trans (Only.of_grownOwn hgrow1 hdr1) (fun _ _ h => .inr (.inr (.inr h)))).trans (Only.setCell w1 ⟨S, 1, none⟩ (.slice (some ⟨g', 0, none⟩) (fs.length + 1) cap')) (fun _ _ h => .inl h)
      have e3 : Only W1 (w1.setCell ⟨S, 1, none⟩ (.slice (some ⟨g', 0, none⟩) (fs.length + 1) cap')) (fun k => k = S ∨ fv.ownBlock = some k) :=
        ((((After.refl W1).alloc _).drew.only _).trans (Only.of_grownOwn hgrow1 hdr1) (fun _ _ h => .inr h)).trans (Only.setCell w1 ⟨S, 1, none⟩ (.slice (some ⟨g', 0, none⟩) (fs.length + 1) cap')) (fun _ _ h => .inl h)
      have g'S : g' ≠ S := by
        obtain ⟨cur, _, hg, _⟩ := ownsRow_get hown1
        exact (show Blk w1 g' 84 cur from hg).ne_ s4 (by decide)
      have own4 := ownsRow_only hown1 (Only.setCell w1 ⟨S, 1, none⟩ (.slice (some ⟨g', 0, none⟩) (fs.length + 1) cap')) g'S
      have s5 := s4.set_ 1 (.slice (some ⟨g', 0, none⟩) (fs.length + 1) cap')
      have hg' : fv.ownBlock = some g' ∨ w.heap.size ≤ g' := by
        rcases hat1 with h | h
        · exact .inl h
        · right
          rw [h]
          show w.heap.size ≤ (W1.alloc _).heap.size
          rw [World.size_alloc]; have := A1.size; omega
      go_wp2_with fail
      refine name_world (fun W4 hW4 => ?_)
      rw [← hW4] at e2 e3 own4 s5
      rw [← hfv'] at own4 s5
      clear hW4
      have b4 : Blk W4 S 111 (sC L fv' (lastOf fs) (botOf 0 fs) (botOf 1 fs) (botOf 2 fs) (botOf 3 fs)) := s5
      have hwlt : ¬ owns S L g fv w.heap.size := fun h => by have := (H.out.owns_lt h).2; omega
      have r4 := b1.only e2 hwlt
      have l4 : ListAt W4 base L g cap (shelvesOf fs) := by
        have hT : ∀ b, b = L ∨ b = g → ¬ (b = S ∨ fv.ownBlock = some b) := by
          intro b hb hS
          rcases hS with h | h
          · rcases hb with rfl | rfl
            · exact hSL h.symm
            · exact hSg h.symm
          · have := hfv.out b h
            rcases hb with rfl | rfl
            · exact this.2.1 rfl
            · exact this.2.2 rfl
        exact ⟨H1.out.list.obj.only e3 (hT _ (.inl rfl)), ownsRow_only H1.out.list.row e3 (hT _ (.inr rfl)), H1.out.list.low, H1.out.list.ne, H1.out.list.rising, H1.out.list.small⟩
      have hl4 := Lib.hid l4
      have P4 := Lib.hid ((A1.only _).trans e2 (fun _ _ h => h))
      have hE3 := Lib.hid e3
      have hOwn4 := Lib.hid own4
      have hG' := Lib.hid hg'
      have HB4 := Lib.hid b4
      have k0 := b4.cell 0
      have k1 := r4.cell 0
      have k2 := r4.cell 1
      have k3 := r4.cell 2
      have k4 := r4.cell 3
      simp [sC] at k0 k1 k2 k3 k4
      have q0 := fun n os => cell_grown (w := W4) b4.lt k0 n os
      have q1 := fun n os => cell_grown (w := W4) r4.lt k1 n os
      have q2 := fun n os => cell_grown (w := W4) r4.lt k2 n os
      have q3 := fun n os => cell_grown (w := W4) r4.lt k3 n os
      have q4 := fun n os => cell_grown (w := W4) r4.lt k4 n os
      clear l4 e1 e2 e3 own4 s5 hg' b4 k0 k1 k2 k3 k4 hgrow1 hdr1 hat1 hlt1 s4 hown1
      refine wp_region_quiet_tail 6 (by assumption) (by kernel_rfl) ?_
      simp only [List.take_succ_cons, List.take_zero, List.drop_succ_cons, List.drop_zero]
      repeat (quiet_step (fail))
      refine wpQuiet_nil ?_
      rintro _ ⟨p, rfl⟩
      generalize hw5 : grow (W4.drewN p.n) p.os = w5
      have A5 : After W4 w5 := hw5 ▸ After.of_grown _ _
      clear hw5 q0 q1 q2 q3 q4
      go_wp2_with fail
      refine (add_next (hl4.out.after A5) (by omega) ⟨2, l, t, r, b⟩ hsm).mono ?_
      rintro e w6 ⟨rfl, g6, cap6, l6, O6, G6⟩
      have hl6 := Lib.hid l6
      have HG6 := Lib.hid G6
      have HO6 := Lib.hid O6
      clear l6
      have b6 := (HB4.out.after A5).only O6 (by rintro (h | h); exact hSL h; exact hSg h)
      have r6 := (r4.after A5).only O6 (fun h => hwlt (by rcases h with h | h; exact .inr (.inl h); exact .inr (.inr (.inl h))))
      have HB6 := Lib.hid b6
      have k1 := r6.cell 0
      have k2 := r6.cell 1
      have k3 := r6.cell 2
      have k4 := r6.cell 3
      simp at k1 k2 k3 k4
      have q1 := fun n os => cell_grown (w := w6) r6.lt k1 n os
      have q2 := fun n os => cell_grown (w := w6) r6.lt k2 n os
      have q3 := fun n os => cell_grown (w := w6) r6.lt k3 n os
      have q4 := fun n os => cell_grown (w := w6) r6.lt k4 n os
      clear G6 O6 b6 k1 k2 k3 k4
      go_wp2_with fail
      refine wp_region_quiet_tail 5 (by assumption) (by kernel_rfl) ?_
      simp only [List.take_succ_cons, List.take_zero, List.drop_succ_cons, List.drop_zero]
      repeat (quiet_step (fail))
      refine wpQuiet_nil ?_
      rintro _ ⟨p, rfl⟩
      generalize hw7 : grow (w6.drewN p.n) p.os = w7
      have A7 : After w6 w7 := hw7 ▸ After.of_grown _ _
      clear hw7 q1 q2 q3 q4
      go_wp2_with fail
      refine (edge_reach (HB6.out.after A7) 2 (lastOf fs) rfl rfl _).mono ?_
      rintro e w8 ⟨rfl, b8, O8⟩
      have r8 := (r6.after A7).only O8 (by omega)
      have b8' : Blk w8 S 111 (sC L fv' (reachE (lastOf fs) t) (botOf 0 fs) (botOf 1 fs) (botOf 2 fs) (botOf 3 fs)) := b8
      have HB8 := Lib.hid b8'
      have HO8 := Lib.hid O8
      have HA7 := Lib.hid A7
      clear b8 b8' O8 A7
      go_wp2_with fail
      refine name_world (fun W9 hW9 => ?_)
      have A9 : After w8 W9 := by rw [hW9]; exact (After.refl _).alloc _
      have v9 : Blk W9 w8.heap.size 3 #[.int .i64 2, .int .i64 3] := by rw [hW9]; exact Blk.new _ _ _
      have r9 := r8.after A9
      have hvS : w8.heap.size ≠ S := by have := HB8.out.lt; omega
      have hrS : w.heap.size ≠ S := by omega
      clear hW9
      go_loopw [36] (fun v wr => PutRel S (sC L fv' (reachE (lastOf fs) t) (botOf 0 fs) (botOf 1 fs) (botOf 2 fs) (botOf 3 fs)) (sC L fv' (reachE (lastOf fs) t) (botOf 0 fs) (botOf 1 fs) (reachE (botOf 2 fs) b) (botOf 3 fs)) (sC L fv' (reachE (lastOf fs) t) (botOf 0 fs) (botOf 1 fs) (reachE (botOf 2 fs) b) (reachE (botOf 3 fs) b)) v W9 wr) (fun v _ => 3 - (intOf v).toNat)
      case atStart => exact ⟨0, rfl, by decide, HB8.out.after A9, Only.refl _ _⟩
      case round =>
        obtain ⟨k, rfl, hk, bk, hO⟩ := hrel
        have vk := v9.only hO hvS
        have rk := r9.only hO hrS
        have v0 := vk.cell 0
        have v1 := vk.cell 1
        have k1 := rk.cell 0
        have k2 := rk.cell 1
        have k3 := rk.cell 2
        have k4 := rk.cell 3
        simp at k1 k2 k3 k4 v0 v1
        have q1 := fun n os => cell_grown (w := wr) rk.lt k1 n os
        have q2 := fun n os => cell_grown (w := wr) rk.lt k2 n os
        have q3 := fun n os => cell_grown (w := wr) rk.lt k3 n os
        have q4 := fun n os => cell_grown (w := wr) rk.lt k4 n os
        rcases (show k = 0 ∨ k = 1 ∨ k = 2 by omega) with rfl | rfl | rfl
        · have bk' : Blk wr S 111 (sC L fv' (reachE (lastOf fs) t) (botOf 0 fs) (botOf 1 fs) (botOf 2 fs) (botOf 3 fs)) := bk
          have HBk := Lib.hid bk'
          clear bk bk'
          go_wp2_with fail
          refine wp_region_quiet_tail 7 (by assumption) (by kernel_rfl) ?_
          simp only [List.take_succ_cons, List.take_zero, List.drop_succ_cons, List.drop_zero]
          repeat (quiet_step (fail))
          refine wpQuiet_nil ?_
          rintro _ ⟨p, rfl⟩
          generalize hwn : grow (wr.drewN p.n) p.os = wn
          have An : After wr wn := hwn ▸ After.of_grown _ _
          clear hwn q1 q2 q3 q4
          go_wp2_with fail
          refine (edge_reach (HBk.out.after An) 8 (botOf 2 fs) rfl rfl _).mono ?_
          rintro e wm ⟨rfl, bm, Om⟩
          have HBm := Lib.hid (show Blk wm S 111 (sC L fv' (reachE (lastOf fs) t) (botOf 0 fs) (botOf 1 fs) (reachE (botOf 2 fs) b) (botOf 3 fs)) from bm)
          have HOm := Lib.hid ((hO.then_after An).trans Om (fun _ _ h => h))
          clear bm Om An hO
          go_wp2_with fail
          go_roundw
          case rel => exact ⟨1, rfl, by decide, HBm.out, HOm.out⟩
          case measure => decide
        · have bk' : Blk wr S 111 (sC L fv' (reachE (lastOf fs) t) (botOf 0 fs) (botOf 1 fs) (reachE (botOf 2 fs) b) (botOf 3 fs)) := bk
          have HBk := Lib.hid bk'
          clear bk bk'
          go_wp2_with fail
          refine wp_region_quiet_tail 7 (by assumption) (by kernel_rfl) ?_
          simp only [List.take_succ_cons, List.take_zero, List.drop_succ_cons, List.drop_zero]
          repeat (quiet_step (fail))
          refine wpQuiet_nil ?_
          rintro _ ⟨p, rfl⟩
          generalize hwn : grow (wr.drewN p.n) p.os = wn
          have An : After wr wn := hwn ▸ After.of_grown _ _
          clear hwn q1 q2 q3 q4
          go_wp2_with fail
          refine (edge_reach (HBk.out.after An) 10 (botOf 3 fs) rfl rfl _).mono ?_
          rintro e wm ⟨rfl, bm, Om⟩
          have HBm := Lib.hid (show Blk wm S 111 (sC L fv' (reachE (lastOf fs) t) (botOf 0 fs) (botOf 1 fs) (reachE (botOf 2 fs) b) (reachE (botOf 3 fs) b)) from bm)
          have HOm := Lib.hid ((hO.then_after An).trans Om (fun _ _ h => h))
          clear bm Om An hO
          go_wp2_with fail
          go_roundw
          case rel => exact ⟨2, rfl, by decide, HBm.out, HOm.out⟩
          case measure => decide
        · have bk' : Blk wr S 111 (sC L fv' (reachE (lastOf fs) t) (botOf 0 fs) (botOf 1 fs) (reachE (botOf 2 fs) b) (reachE (botOf 3 fs) b)) := bk
          have HBk := Lib.hid bk'
          clear bk bk' q1 q2 q3 q4
          go_wp2_with fail
          go_end0
          have o46 : Only W4 w6 (owns S L g fv) := ((A5.only (owns S L g fv)).trans HO6.out (fun i _ hS => by
            rcases hS with h | h
            · exact .inr (.inl h)
            · exact .inr (.inr (.inl h))))
          have o4r : Only W4 wr (fun k => k = S ∨ k = L ∨ k = g) := ((((A5.only _).trans HO6.out (fun _ _ h => .inr h)).then_after HA7.out).trans HO8.out (fun _ _ h => .inl h)).then_after A9 |>.trans hO (fun _ _ h => .inl h)
          have o6r : Only w6 wr (· = S) := ((HA7.out.only _).trans HO8.out (fun _ _ h => h)).then_after A9 |>.trans hO (fun _ _ h => h)
          refine ⟨rfl, g6, cap6, fv', ⟨?_, ?_, ?_, H.out.low, fun e => by simp at e⟩, ?_, ?_⟩
          · have e0 : clearsB 0 2 = false := by decide
            have e1 : clearsB 1 2 = false := by decide
            have e2 : clearsB 2 2 = true := by decide
            have e3 : clearsB 3 2 = true := by decide
            unfold sCells
            rw [lastOf_snoc, botOf_snoc, botOf_snoc, botOf_snoc, botOf_snoc]
            dsimp only
            rw [e0, e1, e2, e3]
            exact HBk.out
          · have hg6S : g6 ≠ S := by
              obtain ⟨cur, _, hg, _⟩ := ownsRow_get hl6.out.row
              exact (show Blk w6 g6 32 cur from hg).ne_ HB6.out (by decide)
            exact ⟨hl6.out.obj.only o6r (fun h => hSL h.symm), ownsRow_only hl6.out.row o6r hg6S, hl6.out.low, hl6.out.ne, hl6.out.rising, hl6.out.small⟩
          · rw [List.length_append, flRow_append, flRow_one]
            have hh := hOwn4.out
            rw [hfv'] at hh ⊢
            have g'L : g' ≠ L ∧ g' ≠ g := by
              obtain ⟨cur, _, hg, _⟩ := ownsRow_get hh
              obtain ⟨cur2, _, hg2, _⟩ := ownsRow_get hl4.out.row
              exact ⟨(show Blk W4 g' 84 cur from hg).ne_ hl4.out.obj (by decide), (show Blk W4 g' 84 cur from hg).ne_ (show Blk W4 g 32 cur2 from hg2) (by decide)⟩
            exact ownsRow_only hh o4r (by rintro (h | h | h); exact g'S h; exact g'L.1 h; exact g'L.2 h)
          · exact P4.out.trans o4r (fun i hi h => by
              rcases h with h | h | h
              · exact .inl h
              · exact .inr (.inl h)
              · exact .inr (.inr (.inl h)))
          · intro k hk
            rcases hk with h | h | h | h
            · exact .inl (.inl h)
            · exact .inl (.inr (.inl h))
            · subst h
              rcases HG6.out with h | h
              · exact .inl (.inr (.inr (.inl h)))
              · right; have := P4.out.size; have := A5.size; omega
            · rw [hfv'] at h
              have e : g' = k := by injection h
              subst e
              rcases hG'.out with h | h
              · exact .inl (.inr (.inr (.inr h)))
              · exact .inr h
end Go.Proofs.Ytefbeekjoafijaa
