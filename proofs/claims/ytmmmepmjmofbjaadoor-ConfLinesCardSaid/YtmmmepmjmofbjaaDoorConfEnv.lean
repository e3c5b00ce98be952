/- What a row of this place lists, as the walks ask for it; a world that fits. -/
import Derived.Test.YtmmmepmjmofbjaaDoorRows
import Derived.Test.YtmmmepmjmofbjaaDoorConfJ
import Derived.WalkKit
import Derived.ProofKit
import Derived.OpenShut
import Derived.Lib.LaidTab
import Derived.Lib.LaidIn
import Derived.Stop.LaidErr
import Derived.Deep.DeepHandedRow
import Derived.Lay
import Derived.MakeChecks
import Derived.Shelf.Vars
set_option linter.unusedVariables false
namespace Go.Proofs.YtmmmepmjmofbjaaDoor
open Go.ChangeShapes Go.WideShapes Go.ChangeAt Go.RowKit

theorem own : ownKnob Tryd.prog.godebug = none := by kernel_rfl
abbrev laidL : List (String × DataW Unit) := Rows.confReadsRow.laid

theorem size_of_shaped {P : Program} {w : World} {g : Nat} (h : w.ShapedOpen P) (hg : g < P.globals.size)
    (h0 : (((begin P (fun _ _ => 0) default).world.heap[g]?).bind Obj.row?).isSome = true) : g < w.heap.size := by
  obtain ⟨⟨zero, t⟩, h0⟩ := Option.isSome_iff_exists.1 h0
  obtain ⟨cs, hh, _⟩ := h.1 g zero t hg h0
  exact (Array.getElem?_eq_some_iff.1 hh).1
theorem star : "*" ++ "errors.errorString" = "*errors.errorString" := by decide
theorem typeRng (u : TypeId) (h : Tryd.prog.typeName? 3 u = some "*errors.errorString") : u = 140 :=
  typeName_ptr_named (P := Tryd.prog) (nm := "errors.errorString") (by rw [star]; kernel_rfl) (by kernel_rfl) (by decide) u (by rw [star]; exact h)
theorem env_of {W : World} (hL0 : laidMetH Tryd.prog laidL W) (hsh : W.ShapedOpen Tryd.prog) : Env W := by
  have hL : laidMet Tryd.prog laidL W := by rwa [MakeChecks.laidMetH_plain _ _ _ (by kernel_rfl)] at hL0
  have h7 : 7 < W.heap.size := size_of_shaped hsh (of_decide_eq_true (by kernel_rfl)) (by kernel_rfl)
  have hm : ∃ m, W.cell? ⟨1, 0, none⟩ = some (.int .i64 m) := cell_of_shapedOpen_int (zero := #[.int .i64 0]) (t := 3) hsh (of_decide_eq_true (by kernel_rfl)) (by kernel_rfl) (by kernel_rfl) (by kernel_rfl) (by kernel_rfl) (by kernel_rfl)
  have hp : Lib.TabIs Tryd.prog W "internal/strconv.uint64pow10" .u64 Lib.pow10Tab :=
    Lib.tabIs_of_head (g := 0) (rest := laidL.drop 3) (t := 117) (e := 76) (n := 20) (by kernel_rfl) (by kernel_rfl) (by kernel_rfl) (by kernel_rfl) (by kernel_rfl) (by kernel_rfl) (laidMet.tail (laidMet.tail hL))
  obtain ⟨a, s, hv, _⟩ := laid_sentinel (laidMet.tail (laidMet.tail (laidMet.tail (laidMet.tail hL)))) (g := 5) (ti := 69) (tp := 140) (te := 142) (ts := 9) (by kernel_rfl) (by kernel_rfl) Tryd.underlying69 typeRng (by kernel_rfl) Tryd.underlying142 rfl rfl (by kernel_rfl) (by kernel_rfl) (by kernel_rfl)
  exact ⟨h7, hm, ⟨_, _, hv⟩, hp⟩
/-- the world of the witness: the listed variables as their text lays them -/
noncomputable abbrev laidW (os : Os) : World := World.laidAll Tryd.prog os laidL
theorem laid_met (os : Os) (args : Array Value) : laidMetH Tryd.prog laidL ((laidW os).forCall (fun _ _ => 0) ⟨#[], args, []⟩).memory := by
  rw [MakeChecks.laidMetH_plain _ _ _ (by kernel_rfl)]
  exact laidMet_laidAll _ (by kernel_rfl) (by kernel_rfl)
theorem laid_shaped (os : Os) (args : Array Value) (h : ((laidW os).forCall (fun _ _ => 0) ⟨#[], args, []⟩).variablesZipB Tryd.prog = true)
    (hr : (((laidW os).forCall (fun _ _ => 0) ⟨#[], args, []⟩).heap.toList.drop Tryd.prog.globals.size).take ((begin Tryd.prog (fun _ _ => 0) default).world.heap.size - Tryd.prog.globals.size) =
      (begin Tryd.prog (fun _ _ => 0) default).world.heap.toList.drop Tryd.prog.globals.size) : ((laidW os).forCall (fun _ _ => 0) ⟨#[], args, []⟩).Shaped Tryd.prog := World.shaped_of_ZipB h hr
end Go.Proofs.YtmmmepmjmofbjaaDoor
