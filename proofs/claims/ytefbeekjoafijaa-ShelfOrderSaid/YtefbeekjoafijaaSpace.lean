/- The space of a context: an edge; New; Put; what it tells. -/
import Derived.Test.YtefbeekjoafijaaRef
namespace Go.Proofs.Ytefbeekjoafijaa
open Go.RowKit Go.Sort

/-! ### edges -/
def eAt (e : Option Int) : Int := e.getD 0
def reachE (e : Option Int) (n : Int) : Option Int := match e with | none => some n | some a => some (if a < n then n else a)

theorem setSame {α : Type} {cs : Array α} {i : Nat} {v : α} (h : cs[i]? = some v) : cs.setIfInBounds i v = cs := by
  apply Array.ext_getElem?
  intro j
  rw [Array.getElem?_setIfInBounds]
  by_cases e : i = j
  · subst e
    obtain ⟨hi, _⟩ := Array.getElem?_eq_some_iff.1 h
    rw [if_pos rfl, if_pos hi, h]
  · rw [if_neg e]

def ReachPost (w : World) (S : Nat) (t : TypeId) (cs : Array Value) (o : Nat) (e' : Option Int) (e : Ending) (w' : World) : Prop :=
  e = .returned (.tuple #[]) ∧ Blk w' S t ((cs.setIfInBounds o (.int .i64 (eAt e'))).setIfInBounds (o + 1) (.bool e'.isSome)) ∧ Only w w' (· = S)

theorem edge_reach {w : World} {S : Nat} {t : TypeId} {cs : Array Value} (h : Blk w S t cs) (o : Nat) (e : Option Int) (h0 : cs[o]? = some (.int .i64 (eAt e))) (h1 : cs[o + 1]? = some (.bool e.isSome)) (n : Int) :
    Calls Try.prog 78 #[.pointer (some ⟨S, o, none⟩), .int .i64 n] w (ReachPost w S t cs o (reachE e n)) := by
  have k0 := (h.cell o).trans h0
  have k1 := (h.cell (o + 1)).trans h1
  have f0 := h.frozen o
  have f1 := h.frozen (o + 1)
  have H := Lib.hid h
  have H0 := Lib.hid h0
  have H1 := Lib.hid h1
  clear h h0 h1
  have G0 := H.out.set_ o (.int .i64 n)
  have G1 := G0.set_ (o + 1) (.bool true)
  have HG := Lib.hid G1
  clear G0 G1
  cases e with
  | none =>
    simp only [eAt, Option.getD_none, Option.isSome_none] at k0 k1
    go_enter Try.func78, Try.ntmps78
    go_wp2
    go_end0
    exact ⟨rfl, HG.out, (Only.setCell _ _ _).trans (Only.setCell _ _ _) (fun _ _ h => h)⟩
  | some a =>
    simp only [eAt, Option.getD_some, Option.isSome_some] at k0 k1
    by_cases hlt : a < n
    · have hr : reachE (some a) n = some n := by simp [reachE, hlt]
      rw [hr]
      go_enter Try.func78, Try.ntmps78
      go_wp2
      go_end0
      exact ⟨rfl, HG.out, (Only.setCell _ _ _).trans (Only.setCell _ _ _) (fun _ _ h => h)⟩
    · have hr : reachE (some a) n = some a := by simp [reachE, hlt]
      rw [hr]
      go_enter Try.func78, Try.ntmps78
      go_wp2
      go_end0
      refine ⟨rfl, ?_, Only.refl _ _⟩
      rw [setSame H0.out, setSame H1.out]
      exact H.out

theorem edge_get (e : Option Int) (w : World) : Calls Try.prog 79 #[.agg #[.int .i64 (eAt e), .bool e.isSome]] w (Ret (.tuple #[.int .i64 (eAt e), .bool e.isSome]) w) := by
  have hmix := mixed
  go_enter Try.func79, Try.ntmps79
  go_wp2_with fail
  refine name_world (fun W2 hW2 => ?_)
  have b0 : Blk W2 w.heap.size 108 #[.int .i64 (eAt e), .bool e.isSome] := by rw [hW2]; exact Blk.new _ _ _
  have A2 : After w W2 := by rw [hW2]; exact (After.refl _).alloc _
  clear hW2
  have k0 := b0.cell 0
  have k1 := b0.cell 1
  simp at k0 k1
  have q0 := fun n os => cell_grown (w := W2) b0.lt k0 n os
  have q1 := fun n os => cell_grown (w := W2) b0.lt k1 n os
  go_quiet_grown (fail)
  go_wp2
  go_ret2
  exact ⟨rfl, A2.trans (After.of_grown _ _)⟩

/-! ### floats kept -/
def lastOf (fs : List Flt) : Option Int := fs.foldl (fun e f => reachE e f.t) none
def clearsB (c side : Int) : Bool := decide (c = 3 ∨ c ≠ 0 ∧ c = side)
def botOf (c : Int) (fs : List Flt) : Option Int := fs.foldl (fun e f => if clearsB c f.side then reachE e f.b else e) none
def flRow (fs : List Flt) : List Value := fs.flatMap flCells
theorem flRow_length (fs : List Flt) : (flRow fs).length = fs.length * 5 := by
  unfold flRow
  induction fs with
  | nil => rfl
  | cons a xs ih => rw [List.flatMap_cons, List.length_append, ih, List.length_cons]; simp [flCells]; omega
theorem flRow_append (xs ys : List Flt) : flRow (xs ++ ys) = flRow xs ++ flRow ys := by simp [flRow]
theorem flRow_one (f : Flt) : flRow [f] = flCells f := by simp [flRow]

def sCells (L : Nat) (fv : Value) (fs : List Flt) : Array Value :=
  #[.pointer (some ⟨L, 0, none⟩), fv, .int .i64 (eAt (lastOf fs)), .bool (lastOf fs).isSome, .int .i64 (eAt (botOf 0 fs)), .bool (botOf 0 fs).isSome, .int .i64 (eAt (botOf 1 fs)), .bool (botOf 1 fs).isSome,
    .int .i64 (eAt (botOf 2 fs)), .bool (botOf 2 fs).isSome, .int .i64 (eAt (botOf 3 fs)), .bool (botOf 3 fs).isSome]

/-- the space of the floats fs: its object in block S -/
structure SpaceAt (w : World) (base S L g cap : Nat) (fv : Value) (fs : List Flt) : Prop where
  obj : Blk w S 111 (sCells L fv fs)
  list : ListAt w base L g cap (shelvesOf fs)
  row : w.ownsRow base 84 5 fv fs.length (flRow fs)
  low : base ≤ S
  nil : fs = [] → fv = .slice none 0 0

/-- the blocks of a space -/
def owns (S L g : Nat) (fv : Value) (k : Nat) : Prop := k = S ∨ k = L ∨ k = g ∨ fv.ownBlock = some k

section
variable {w w' : World} {base S L g cap : Nat} {fv : Value} {fs : List Flt}
theorem ownsRow_kept {v : Value} {n size : Nat} {t : TypeId} {xs : List Value} {T : Nat → Prop} (h : w.ownsRow base t size v n xs) (k : Only w w' T) (hT : ∀ b, v.ownBlock = some b → ¬ T b) : w'.ownsRow base t size v n xs := by
  rcases h.2 with ⟨hv, hn⟩ | ⟨b, c, cur, hv, _⟩
  · exact ⟨h.1, .inl ⟨hv, hn⟩⟩
  · subst hv
    exact ownsRow_only h k (hT b rfl)
theorem SpaceAt.only {T : Nat → Prop} (h : SpaceAt w base S L g cap fv fs) (k : Only w w' T) (hT : ∀ b, owns S L g fv b → ¬ T b) : SpaceAt w' base S L g cap fv fs :=
  ⟨h.obj.only k (hT _ (.inl rfl)), ⟨h.list.obj.only k (hT _ (.inr (.inl rfl))), ownsRow_only h.list.row k (hT _ (.inr (.inr (.inl rfl)))), h.list.low, h.list.ne, h.list.rising, h.list.small⟩,
    ownsRow_kept h.row k (fun _ hb => hT _ (.inr (.inr (.inr hb)))), h.low, h.nil⟩
theorem SpaceAt.after (h : SpaceAt w base S L g cap fv fs) (k : After w w') : SpaceAt w' base S L g cap fv fs := h.only (k.only (fun _ => False)) (fun _ _ h => h)
theorem SpaceAt.ne_L (h : SpaceAt w base S L g cap fv fs) : S ≠ L := h.obj.ne_ h.list.obj (by decide)
theorem SpaceAt.ne_g (h : SpaceAt w base S L g cap fv fs) : S ≠ g := by
  obtain ⟨cur, _, hg, _⟩ := ownsRow_get h.list.row
  exact h.obj.ne_ (show Blk w g 32 cur from hg) (by decide)
theorem SpaceAt.fv_ne (h : SpaceAt w base S L g cap fv fs) {b : Nat} (hb : fv.ownBlock = some b) : b ≠ S ∧ b ≠ L ∧ b ≠ g := by
  rcases h.row.2 with ⟨hv, hn⟩ | ⟨b', c, cur, hv, _, hg, _⟩
  · subst hv; cases hb
  · subst hv
    have e : b' = b := by injection hb
    subst e
    have hb2 : Blk w b' 84 cur := hg
    obtain ⟨cur2, _, hg2, _⟩ := ownsRow_get h.list.row
    exact ⟨hb2.ne_ h.obj (by decide), hb2.ne_ h.list.obj (by decide), hb2.ne_ (show Blk w g 32 cur2 from hg2) (by decide)⟩
theorem SpaceAt.owns_lt (h : SpaceAt w base S L g cap fv fs) {b : Nat} (hb : owns S L g fv b) : base ≤ b ∧ b < w.heap.size := by
  rcases hb with rfl | rfl | rfl | hb
  · exact ⟨h.low, h.obj.lt⟩
  · exact ⟨h.list.low, h.list.L_lt⟩
  · exact h.list.row.lt _ rfl
  · exact h.row.lt _ hb
end

def SpaceNew (w : World) (fs : List Flt) (e : Ending) (w' : World) : Prop :=
  ∃ S L g cap fv, e = .returned (.pointer (some ⟨S, 0, none⟩)) ∧ SpaceAt w' w.heap.size S L g cap fv fs ∧ After w w'

theorem space_new (w : World) : Calls Try.prog 44 #[] w (SpaceNew w []) := by
  go_enter Try.func44, Try.ntmps44
  go_wp2_with fail
  refine (shelf_new _).mono ?_
  rintro e w1 ⟨L, g, cap, rfl, hL, hw1⟩
  go_wp2
  go_ret
  refine ⟨w1.heap.size, L, g, cap, .slice none 0 0, rfl, ⟨Blk.new _ _ _, hL.after ((After.refl _).alloc _), ⟨rfl, .inl ⟨rfl, rfl⟩⟩, hw1.size, fun _ => rfl⟩, hw1.alloc _⟩
end Go.Proofs.Ytefbeekjoafijaa
