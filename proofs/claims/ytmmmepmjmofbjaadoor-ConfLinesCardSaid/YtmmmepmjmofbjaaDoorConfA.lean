/- Walks of small functions of conf and lookoutref17. -/
import Derived.Test.YtmmmepmjmofbjaaDoorProg
import Derived.Test.YtmmmepmjmofbjaaDoorInf
import Derived.Test.YtmmmepmjmofbjaaDoorSplitA
set_option linter.unusedVariables false
namespace Go.Proofs.YtmmmepmjmofbjaaDoor
open Go Go.RowKit

/-- the seven fields of a configuration, as a value -/
abbrev cfv (so ro : Int) (ol : Bool) (A : Option Addr) (n c : Nat) (qu ti pa : Int) : Value :=
  .agg #[.int .i64 so, .int .i64 ro, .bool ol, .slice A n c, .int .i64 qu, .int .i64 ti, .int .i64 pa]

theorem plain_any (so ro : Int) (ol : Bool) (A : Option Addr) (n c : Nat) (qu ti pa : Int) (w : World) :
    Calls Tryd.prog 12 #[cfv so ro ol A n c qu ti pa] w fun e w' => e = .returned (cfv so ro ol A n c qu ti pa) ∧ Below w.heap.size w w' := by
  go_enter Tryd.func12, Tryd.ntmps12
  go_wp2
  refine bodyPost_ret (v := cfv so ro ol A n c qu ti pa) (by simp [results, Tryd.results12, go_sem]) rfl ⟨rfl, ?_⟩
  exact ((Below.refl _ _).alloc (Nat.le_refl _) _).alloc (by simp) _

def lowI (k : Int) : Int := if k = 7 then 0 else 1
theorem low_any (k : Int) (w : World) :
    Calls Tryd.prog 40 #[.int .i64 k] w fun e w' => e = .returned (.int .i64 (lowI k)) ∧ w = w' := by
  go_enter Tryd.func40, Tryd.ntmps40
  go_wp2
  all_goals (go_ret; exact ⟨ret_int (by simp_all [lowI]), rfl⟩)

def highI (k : Int) : Int := if k = 1 then 8 else if k = 2 ∨ k = 5 then 64 else if k = 4 then 16 else 9223372036854775807
theorem high_any (k : Int) (w : World) :
    Calls Tryd.prog 41 #[.int .i64 k] w fun e w' => e = .returned (.int .i64 (highI k)) ∧ w = w' := by
  go_enter Tryd.func41, Tryd.ntmps41
  go_wp2
  all_goals (go_ret; exact ⟨ret_int (by simp_all [highI]), rfl⟩)

theorem policy_any (b : Bool) (w : World) :
    Calls Tryd.prog 49 #[.bool b] w fun e w' => e = .returned (.string (bs (if b then [111, 108, 100, 101, 115, 116] else [116, 97, 105, 108]))) ∧ w = w' := by
  cases b
  all_goals
    go_enter Tryd.func49, Tryd.ntmps49
    go_wp2
    go_ret
    exact ⟨rfl, rfl⟩

theorem policies_any (w : World) :
    Calls Tryd.prog 30 #[] w fun e w' => e = .returned (.slice (some ⟨w.heap.size, 0, none⟩) 2 2) ∧ w' = w.alloc (.cells #[.string (bs [116, 97, 105, 108]), .string (bs [111, 108, 100, 101, 115, 116])] 9) := by
  go_enter Tryd.func30, Tryd.ntmps30
  go_wp2
  go_ret
  exact ⟨rfl, rfl⟩

/-- which setting a word is -/
def words7 : List (List UInt8) := [[115, 111, 117, 114, 99, 101, 115], [114, 111, 111, 109], [112, 111, 108, 105, 99, 121], [119, 101, 105, 103, 104, 116, 115], [113, 117, 97, 110, 116, 117, 109], [116, 105, 109, 101, 111, 117, 116], [112, 97, 116, 105, 101, 110, 99, 101]]
def placeI (s : List UInt8) : Int := match words7.idxOf? s with | some k => k + 1 | none => 0
theorem place_hit {l : List UInt8} {s : ByteArray} {k : Int} (h : (l == s.toList) = true) (hk : placeI l = k) : k = placeI s.data.toList := by
  rw [beq_iff_eq, ByteArray.toList_eq] at h; rw [← h]; exact hk.symm
theorem place_miss {s : ByteArray} (h : ∀ l ∈ words7, (l == s.toList) = false) : placeI s.data.toList = 0 := by
  have : words7.idxOf? s.data.toList = none := by
    rw [List.idxOf?_eq_none_iff]
    intro hm
    have := h _ hm
    rw [ByteArray.toList_eq] at this
    simp at this
  simp [placeI, this]
theorem place_any (s : ByteArray) (w : World) :
    Calls Tryd.prog 25 #[.string s] w fun e w' => e = .returned (.int .i64 (placeI s.data.toList)) ∧ Below w.heap.size w w' := by
  go_enter Tryd.func25, Tryd.ntmps25
  go_wp2
  refine wp_loop_rounds 8 ?_
  rw [rounds_succ]; go_wp2
  · go_ret; exact ⟨ret_int (place_hit ‹_› (by decide)), (Below.refl _ _).alloc (Nat.le_refl _) _⟩
  rw [rounds_succ]; go_wp2
  · go_ret; exact ⟨ret_int (place_hit ‹_› (by decide)), (Below.refl _ _).alloc (Nat.le_refl _) _⟩
  rw [rounds_succ]; go_wp2
  · go_ret; exact ⟨ret_int (place_hit ‹_› (by decide)), (Below.refl _ _).alloc (Nat.le_refl _) _⟩
  rw [rounds_succ]; go_wp2
  · go_ret; exact ⟨ret_int (place_hit ‹_› (by decide)), (Below.refl _ _).alloc (Nat.le_refl _) _⟩
  rw [rounds_succ]; go_wp2
  · go_ret; exact ⟨ret_int (place_hit ‹_› (by decide)), (Below.refl _ _).alloc (Nat.le_refl _) _⟩
  rw [rounds_succ]; go_wp2
  · go_ret; exact ⟨ret_int (place_hit ‹_› (by decide)), (Below.refl _ _).alloc (Nat.le_refl _) _⟩
  rw [rounds_succ]; go_wp2
  · go_ret; exact ⟨ret_int (place_hit ‹_› (by decide)), (Below.refl _ _).alloc (Nat.le_refl _) _⟩
  rw [rounds_succ]; go_wp2
  go_ret
  exact ⟨ret_int (place_miss (by simp only [words7, List.forall_mem_cons]; exact ⟨‹_›, ‹_›, ‹_›, ‹_›, ‹_›, ‹_›, ‹_›, by simp⟩)).symm, (Below.refl _ _).alloc (Nat.le_refl _) _⟩

end Go.Proofs.YtmmmepmjmofbjaaDoor
