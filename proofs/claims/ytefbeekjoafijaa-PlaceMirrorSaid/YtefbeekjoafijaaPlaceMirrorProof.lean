/- Law PlaceMirror answers true, whatever it is asked of, and leaves its arguments alone. No condition. -/
import Derived.Test.YtefbeekjoafijaaRows
import Derived.Test.YtefbeekjoafijaaPMirror
import Derived.Test.YtefbeekjoafijaaOpen
import Derived.Test.YtefbeekjoafijaaOpen11
namespace Go.Proofs.Ytefbeekjoafijaa
open Go.ChangeShapes Go.WideShapes Go.ChangeAt Go.RowKit

set_option maxRecDepth 100000 in
theorem placeMirror_lifted (os : Os) (started : os.Started) (H : Type) (enc : TypeId × Value → H) :
    ReturnsInHanded {} Try.checked os 18 .any (Rows.placeMirrorSpec.pre6 enc Try.prog Try.f18 Rows.placeMirrorRow.domain false) (Rows.placeMirrorSpec.post enc Try.prog Try.f18 false true false false) := by
  refine returnsInHanded_of_change (C := Try.checked) own started (by kernel_rfl) Try.func18
    (ChangeSpec.witness6 (enc := enc) (C := Try.checked) false ⟨#[], #[.slice none 0 0, .agg #[.int .i64 0, .int .i64 0, .int .i64 0, .int .i64 0, .int .i64 0, .int .i64 0, .int .i64 0]], []⟩ 8 (by kernel_rfl) (by kernel_rfl) (by kernel_rfl) (by kernel_rfl)) ?_
  intro W base args ds gs before hval0 hW hcnd _
  have hval : ∀ (j : Nat) t v, Try.f18.params[j]? = some t → args[j]? = some v → Value.okWide Try.prog W .any base t v := hval0
  have hW' := hW
  obtain ⟨p, q, hA0, hV, rfl, hfz, hnd⟩ := hW
  have hA : DataW.TrodAll enc Try.prog W 0 (fun _ => true) true Try.f18.params.toList args.toList ds p := hA0
  rw [Try.params18] at hA hval
  obtain ⟨v0, vs0, d0, ds0, p0, q0, hargs, rfl, rfl, h0, r0⟩ := trodAll_cons hA
  obtain ⟨v1, vs1, d1, ds1, p1, q1, rfl, rfl, rfl, h1, r1⟩ := trodAll_cons r0
  obtain ⟨rfl, rfl, rfl⟩ := trodAll_nil r1
  obtain rfl : args = #[v0, v1] := by cases args; simp_all
  obtain ⟨rfl, rfl⟩ := trodVars_none hV
  obtain ⟨a0, len0, cap0, rfl⟩ := okWide_slice Try.underlying22 (hval 0 22 v0 rfl rfl)
  have k0 := h0
  have lt0 : ∀ x ∈ p0, x.block < W.heap.size := by obtain ⟨m, hm⟩ := k0; exact DataW.trod_lt m _ _ _ hm
  obtain ⟨fs0, w0⟩ : ∃ fs, FlsAt W (.slice a0 len0 cap0) fs := by
    obtain ⟨fuel, hf⟩ := h0
    obtain ⟨v, fs, hv, hfs⟩ := fls_of_trod hf
    simp [Value.cells] at hv
    subst hv
    exact ⟨fs, hfs⟩
  have k1 := h1
  have lt1 : ∀ x ∈ p1, x.block < W.heap.size := by obtain ⟨m, hm⟩ := k1; exact DataW.trod_lt m _ _ _ hm
  obtain ⟨cs1, rfl, _⟩ := okWide_struct Try.underlying92 (hval 1 92 v1 rfl rfl)
  obtain ⟨x1a, x1b, x1c, x1d, x1e, x1f, x1g, rfl⟩ : ∃ x1a x1b x1c x1d x1e x1f x1g : Int, cs1 = #[.int .i64 x1a, .int .i64 x1b, .int .i64 x1c, .int .i64 x1d, .int .i64 x1e, .int .i64 x1f, .int .i64 x1g] := by
    obtain ⟨fuel, hf⟩ := h1
    simp only [Value.cells] at hf
    obtain ⟨x1a, x1b, x1c, x1d, x1e, x1f, x1g, e⟩ := want11_cells hf
    exact ⟨x1a, x1b, x1c, x1d, x1e, x1f, x1g, by rw [← Array.toArray_toList (xs := cs1), e]⟩
  clear hA0 hval0
  refine (placeMirror w0 x1a x1b x1c x1d x1e x1f x1g).mono fun e W' ⟨he, bel⟩ => ?_
  subst he
  exact ⟨_, rfl, _, _, _, [], _, [], hW', trodAll_mk1 (shut_bool Try.underlying4 _), (trodAll_cons_mk (Below.trod laidOut (by kernel_rfl) (of_decide_eq_true (by kernel_rfl)) k0 bel.toBelow lt0) (trodAll_cons_mk (Below.trod laidOut (by kernel_rfl) (of_decide_eq_true (by kernel_rfl)) k1 bel.toBelow lt1) trodAll_mk0)), rfl, bel.toBelow.frame _, fun h => by cases h⟩

theorem placeMirror_over : Rows.placeMirrorRow.holds Try.pinned (OpenSpec.ofChange Rows.placeMirrorSpec) :=
  OpenClaim.holds_of_wide 18 Try.f18 rfl rfl rfl rfl rfl rfl rfl ⟨rfl, rfl, rfl, rfl, rfl⟩ rfl rfl rfl rfl rfl (by kernel_rfl) Try.func18 (by kernel_rfl)
    (of_decide_eq_true (by kernel_rfl)) (by unfold Func.isWrapper; first | (rw [if_pos (by decide +kernel)]; kernel_rfl) | (rw [if_neg (by decide +kernel)]; exact ⟨rfl, rfl⟩))
    (fun os started H enc _ => placeMirror_lifted os started H enc)

theorem placeMirror_proved : Rows.PlaceMirrorSaid := placeMirror_over
#print axioms placeMirror_proved
end Go.Proofs.Ytefbeekjoafijaa
