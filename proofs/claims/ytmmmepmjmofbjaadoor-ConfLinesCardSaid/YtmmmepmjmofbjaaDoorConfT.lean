/- A set of words: a map[string]bool of the call's own. -/
import Derived.Test.YtmmmepmjmofbjaaDoorProg
import Derived.Test.YtmmmepmjmofbjaaDoorInf
import Derived.Maps.Own
import Derived.Maps.OwnOps
import Derived.Maps.Views
set_option linter.unusedVariables false
namespace Go.Proofs.YtmmmepmjmofbjaaDoor
open Go Go.RowKit

theorem strLaw : Maps.Keyed Tryd.prog 9 := Maps.string_keyed (by kernel_rfl)
theorem ubool : Tryd.prog.underlying 4 = some .bool := by kernel_rfl
theorem ustring : Tryd.prog.underlying 9 = some .string := by kernel_rfl
theorem umap : Tryd.prog.underlying 45 = some (.map 9 4) := by kernel_rfl
/-- block b is the set S of words -/
def SeenMap (w : World) (b n : Nat) (S : List (List UInt8)) : Prop :=
  ∃ D : DataW Unit, w.ownsMap Tryd.prog 9 (plainElem Tryd.prog 4) b n D ∧ Maps.IsMap D ∧ ∀ x : List UInt8, D.atKey (.string x) (.lit (.bool false)) = .lit (.bool (S.contains x))
theorem SeenMap.made (w : World) : SeenMap (w.alloc (.map #[] 0)) w.heap.size 0 [] :=
  ⟨.map [], World.ownsMap_made _ _ _ _, Maps.isMap_empty, fun x => rfl⟩
theorem SeenMap.block {w w' : World} {b n : Nat} {S : List (List UInt8)} (h : SeenMap w b n S) (hb : w'.heap[b]? = w.heap[b]?) : SeenMap w' b n S := by
  obtain ⟨D, ⟨es, clock, h1, h2⟩, h3⟩ := h
  exact ⟨D, ⟨es, clock, hb.trans h1, h2⟩, h3⟩
theorem SeenMap.lt {w : World} {b n : Nat} {S : List (List UInt8)} (h : SeenMap w b n S) : b < w.heap.size := by
  obtain ⟨D, h1, _⟩ := h
  exact h1.lt
theorem plainElem_bool_inv {H : Type} {P : Program} {e : TypeId} (he : P.underlying e = some .bool) {v : Value} {z : DataW H × List MemPlace} (h : plainElem P e v = some z) : ∃ x, v = .bool x ∧ z = (.lit (.bool x), []) := by
  unfold plainElem at h
  rw [he] at h
  cases v <;> simp at h
  exact ⟨_, rfl, h.symm⟩
theorem key_of (x : List UInt8) (hx : x.length ≤ 1000000) : keyOf Tryd.prog 9 (.string (bs x)) = some (.string x) := by
  have : mapKey Tryd.prog 9 (.string (bs x)) = some (.string x) := by
    unfold mapKey
    rw [ustring]
    simp [bs, ByteArray.size]
    unfold maxLen
    omega
  simpa [keyOf, ustring] using this
theorem SeenMap.look {w : World} {b n : Nat} {S : List (List UInt8)} (h : SeenMap w b n S) (x : List UInt8) (hx : x.length ≤ 1000000) :
    (Instr.lookup 45 (.map (some b)) (.string (bs x)) false).run Tryd.prog w = .ok (.bool (S.contains x)) w := by
  obtain ⟨D, h1, _, h3⟩ := h
  obtain ⟨v, ps, hrun, hv⟩ := h1.lookup strLaw umap (z := .bool false) (by kernel_rfl) (plainElem_bool ubool false) (key_of x hx)
  obtain ⟨y, rfl, hy⟩ := plainElem_bool_inv ubool hv
  rw [hrun]
  rw [h3] at hy
  simp only [Prod.mk.injEq, DataW.lit.injEq, Lit.bool.injEq] at hy
  rw [hy.1]
theorem SeenMap.store {w : World} {b n : Nat} {S : List (List UInt8)} (h : SeenMap w b n S) (hn : n < 1000000) (x : List UInt8) (hx : x.length ≤ 1000000) :
    ∃ w', (Instr.mapUpdate 45 (.map (some b)) (.string (bs x)) (.bool true)).run Tryd.prog w = .ok () w' ∧ SeenMap w' b (n + 1) (x :: S) ∧ w.grownBy w' (some b) := by
  obtain ⟨D, h1, h2, h3⟩ := h
  obtain ⟨w', hrun, hown, hg⟩ := h1.update strLaw umap (by unfold maxLen; omega) (key_of x hx) (plainElem_bool ubool true)
  refine ⟨w', hrun, ⟨_, hown, h2.put _ _, fun y => ?_⟩, hg⟩
  by_cases e : y = x
  · subst e
    rw [Maps.atKey_put_same h2 (show WideAt.IsKeyLit (.string y) from trivial)]
    simp
  · rw [Maps.atKey_put_other (by simpa using e), h3]
    simp [e]
end Go.Proofs.YtmmmepmjmofbjaaDoor
