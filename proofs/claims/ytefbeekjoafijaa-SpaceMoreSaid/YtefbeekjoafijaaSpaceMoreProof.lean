/- Law SpaceMore answers true, whatever it is asked of, and leaves its arguments alone. No condition. -/
import Derived.Test.YtefbeekjoafijaaRows
import Derived.Test.YtefbeekjoafijaaMore
import Derived.Test.YtefbeekjoafijaaOpen
import Derived.SizedLaws
namespace Go.Proofs.Ytefbeekjoafijaa
open Go.ChangeShapes Go.WideShapes Go.ChangeAt Go.RowKit Go.Deep

set_option maxRecDepth 100000 in
theorem spaceMore_lifted (os : Os) (started : os.Started) (H : Type) (enc : TypeId × Value → H) :
    ReturnsInHanded {} Try.checked os 12 .any (Rows.spaceMoreSpec.pre6 enc Try.prog Try.f12 Rows.spaceMoreRow.domain false) (Rows.spaceMoreSpec.post enc Try.prog Try.f12 false true false false) := by
  refine returnsInHanded_of_change_sized (C := Try.checked) own started (by kernel_rfl) Try.func12
    (ChangeSpec.witness6 (enc := enc) (C := Try.checked) false ⟨#[], #[.slice none 0 0, .agg #[.int .i64 0, .int .i64 0, .int .i64 0, .int .i64 0, .int .i64 0], .int .i64 0, .int .i64 0], []⟩ 8 (by kernel_rfl) (by kernel_rfl) (by kernel_rfl) (by kernel_rfl)) ?_
  intro W base args ds gs before hval0 hW hcnd hsz0 _
  have hval : ∀ (j : Nat) t v, Try.f12.params[j]? = some t → args[j]? = some v → Value.okWide Try.prog W .any base t v := hval0
  have hW' := hW
  obtain ⟨p, q, hA0, hV, rfl, hfz, hnd⟩ := hW
  have hA : DataW.TrodAll enc Try.prog W 0 (fun _ => true) true Try.f12.params.toList args.toList ds p := hA0
  have hsz : (DataW.weightsEach Try.prog (Try.f12.params.toList ++ Rows.spaceMoreSpec.plain.varTypes Try.prog) (ds ++ gs)).all (· ≤ reachBytes) = true := hsz0
  rw [Try.params12] at hA hval hsz
  obtain ⟨v0, vs0, d0, ds0, p0, q0, hargs, rfl, rfl, h0, r0⟩ := trodAll_cons hA
  obtain ⟨v1, vs1, d1, ds1, p1, q1, rfl, rfl, rfl, h1, r1⟩ := trodAll_cons r0
  obtain ⟨v2, vs2, d2, ds2, p2, q2, rfl, rfl, rfl, h2, r2⟩ := trodAll_cons r1
  obtain ⟨v3, vs3, d3, ds3, p3, q3, rfl, rfl, rfl, h3, r3⟩ := trodAll_cons r2
  obtain ⟨rfl, rfl, rfl⟩ := trodAll_nil r3
  obtain rfl : args = #[v0, v1, v2, v3] := by cases args; simp_all
  obtain ⟨rfl, rfl⟩ := trodVars_none hV
  obtain ⟨a0, len0, cap0, rfl⟩ := okWide_slice Try.underlying22 (hval 0 22 v0 rfl rfl)
  have k0 := h0
  have lt0 : ∀ x ∈ p0, x.block < W.heap.size := by obtain ⟨m, hm⟩ := k0; exact DataW.trod_lt m _ _ _ hm
  obtain ⟨fs0, w0⟩ : ∃ fs, FlsAt W (.slice a0 len0 cap0) fs := by
    obtain ⟨fuel, hf⟩ := h0
    obtain ⟨v, fs, hv, hfs⟩ := fls_of_trod hf
    simp [Value.cells] at hv
    subst hv
    exact ⟨fs, hfs⟩
  have hl0 : fs0.length = len0 := by
    rcases w0 with ⟨a, cap, hv, hfs⟩ | ⟨b, o, cap, hv, _⟩
    · injection hv with _ e _; rw [hfs, e]; rfl
    · injection hv with _ e _; exact e.symm
  have hr0 : fs0.length * 40 ≤ 140737488351232 := by
    obtain ⟨fuel, hf⟩ := k0
    rcases open_slice Try.underlying22 hf with ⟨hc, _⟩ | ⟨a, len, cap, m, n, D, Pl, hc, _, _, _, _, hx, _⟩
    · simp [Value.cells] at hc
      rw [hl0, hc.2.1]; decide
    · simp [Value.cells] at hc
      obtain ⟨_, e, _⟩ := hc
      have hd := congrArg Prod.fst hx
      have hb : Try.prog.bytesOf 72 = 40 := by kernel_rfl
      have := sized_slice hsz (j := 0) (t := 22) (e := 72) rfl (congrArg some hd) Try.underlying22
      rw [hb] at this
      simp only [List.length_map, List.length_range, reachBytes] at this
      rw [hl0, e]
      omega
  have k1 := h1
  have lt1 : ∀ x ∈ p1, x.block < W.heap.size := by obtain ⟨m, hm⟩ := k1; exact DataW.trod_lt m _ _ _ hm
  obtain ⟨cs1, rfl, _⟩ := okWide_struct Try.underlying72 (hval 1 72 v1 rfl rfl)
  obtain ⟨x1a, x1b, x1c, x1d, x1e, rfl⟩ : ∃ x1a x1b x1c x1d x1e : Int, cs1 = #[.int .i64 x1a, .int .i64 x1b, .int .i64 x1c, .int .i64 x1d, .int .i64 x1e] := by
    obtain ⟨fuel, hf⟩ := h1
    simp only [Value.cells] at hf
    obtain ⟨x1a, x1b, x1c, x1d, x1e, e, _, _, _, _, _⟩ := float_cells hf
    exact ⟨x1a, x1b, x1c, x1d, x1e, by rw [← Array.toArray_toList (xs := cs1), e]⟩
  obtain ⟨a2, rfl, rfl, rfl, w2⟩ := open_int Try.underlying3 (hval 2 3 v2 rfl rfl) h2
  obtain ⟨a3, rfl, rfl, rfl, w3⟩ := open_int Try.underlying3 (hval 3 3 v3 rfl rfl) h3
  clear hA0 hval0
  refine (spaceMore w0 hr0 x1a x1b x1c x1d x1e a2 a3).mono fun e W' ⟨he, bel⟩ => ?_
  subst he
  exact ⟨_, rfl, _, _, _, [], _, [], hW', trodAll_mk1 (shut_bool Try.underlying4 _), (trodAll_cons_mk (Below.trod laidOut (by kernel_rfl) (of_decide_eq_true (by kernel_rfl)) k0 bel.toBelow lt0) (trodAll_cons_mk (Below.trod laidOut (by kernel_rfl) (of_decide_eq_true (by kernel_rfl)) k1 bel.toBelow lt1) (trodAll_cons_mk (shut_int Try.underlying3 w2) (trodAll_cons_mk (shut_int Try.underlying3 w3) trodAll_mk0)))), rfl, bel.toBelow.frame _, fun h => by cases h⟩

theorem spaceMore_over : Rows.spaceMoreRow.holds Try.pinned (OpenSpec.ofChange Rows.spaceMoreSpec) :=
  OpenClaim.holds_of_wide 12 Try.f12 rfl rfl rfl rfl rfl rfl rfl ⟨rfl, rfl, rfl, rfl, rfl⟩ rfl rfl rfl rfl rfl (by kernel_rfl) Try.func12 (by kernel_rfl)
    (of_decide_eq_true (by kernel_rfl)) (by unfold Func.isWrapper; first | (rw [if_pos (by decide +kernel)]; kernel_rfl) | (rw [if_neg (by decide +kernel)]; exact ⟨rfl, rfl⟩))
    (fun os started H enc _ => spaceMore_lifted os started H enc)

theorem spaceMore_proved : Rows.SpaceMoreSaid := spaceMore_over
#print axioms spaceMore_proved
end Go.Proofs.Ytefbeekjoafijaa
