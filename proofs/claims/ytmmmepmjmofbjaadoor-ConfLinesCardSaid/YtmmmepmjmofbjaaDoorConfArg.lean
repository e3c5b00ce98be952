/- A configuration as an argument. -/
import Derived.Test.YtmmmepmjmofbjaaDoorConfEnv
import Derived.Test.YtmmmepmjmofbjaaDoorConfF
import Derived.Lib.SmallJoins
import Derived.ChangeSlices
import Derived.SliceStrings
import Derived.SizedLaws
import Derived.Carry
set_option linter.unusedVariables false
namespace Go.Proofs.YtmmmepmjmofbjaaDoor
open Go.ChangeShapes Go.WideShapes Go.ChangeAt Go.RowKit Go.Joins Go.Deep
section
variable {H : Type} {enc : TypeId × Value → H} {P : Program} {w : World} {base : Nat} {spare : Nat → Bool} {held : Bool}
theorem open_agg7 {r : Reach} {b0 : Nat} {t : TypeId} {f0 f1 f2 f3 f4 f5 f6 : Field} {v : Value} {d : DataW H} {p : List MemPlace} (hs : P.underlying t = some (.struct #[f0, f1, f2, f3, f4, f5, f6])) (hone : oneCellFields P #[f0, f1, f2, f3, f4, f5, f6] = true) (hC : P.cellsOf t = 7)
    (hv : Value.okWide P w r b0 t v) (h : DataW.Trod enc P w base spare held t v d p) :
    ∃ (v0 v1 v2 v3 v4 v5 v6 : Value) (y0 y1 y2 y3 y4 y5 y6 : DataW H × List MemPlace) (n : Nat), v = .agg #[v0, v1, v2, v3, v4, v5, v6] ∧
      DataW.trod enc P w base spare held n f0.type [v0] = some y0 ∧ DataW.trod enc P w base spare held n f1.type [v1] = some y1 ∧ DataW.trod enc P w base spare held n f2.type [v2] = some y2 ∧ DataW.trod enc P w base spare held n f3.type [v3] = some y3 ∧ DataW.trod enc P w base spare held n f4.type [v4] = some y4 ∧ DataW.trod enc P w base spare held n f5.type [v5] = some y5 ∧ DataW.trod enc P w base spare held n f6.type [v6] = some y6 := by
  obtain ⟨cs, rfl, hsz⟩ := okWide_struct hs hv
  obtain ⟨l⟩ := cs
  match l, hsz.trans hC with
  | [c0, c1, c2, c3, c4, c5, c6], _ =>
    obtain ⟨fuel, hf⟩ := h
    obtain ⟨xs, n, _, hx, _, hlen, hg⟩ := DataW.trod_struct hs hf
    obtain ⟨o0, k0⟩ := hone_of hone 0 f0 rfl
    obtain ⟨o1, k1⟩ := hone_of hone 1 f1 rfl
    obtain ⟨o2, k2⟩ := hone_of hone 2 f2 rfl
    obtain ⟨o3, k3⟩ := hone_of hone 3 f3 rfl
    obtain ⟨o4, k4⟩ := hone_of hone 4 f4 rfl
    obtain ⟨o5, k5⟩ := hone_of hone 5 f5 rfl
    obtain ⟨o6, k6⟩ := hone_of hone 6 f6 rfl
    match xs, hlen with
    | [y0, y1, y2, y3, y4, y5, y6], _ =>
      exact ⟨c0, c1, c2, c3, c4, c5, c6, y0, y1, y2, y3, y4, y5, y6, n, rfl, by simpa [Value.cells, o0, k0] using hg 0 f0 rfl, by simpa [Value.cells, o1, k1] using hg 1 f1 rfl, by simpa [Value.cells, o2, k2] using hg 2 f2 rfl, by simpa [Value.cells, o3, k3] using hg 3 f3 rfl, by simpa [Value.cells, o4, k4] using hg 4 f4 rfl, by simpa [Value.cells, o5, k5] using hg 5 f5 rfl, by simpa [Value.cells, o6, k6] using hg 6 f6 rfl⟩
end
theorem wf64 {n : Int} (h : (Lit.int .i64 n).wf = true) : -9223372036854775808 ≤ n ∧ n ≤ 9223372036854775807 := by
  simpa [Lit.wf, IntKind.min, IntKind.max, IntKind.signed, IntKind.bits] using h
theorem reads_ints {H : Type} {enc : TypeId × Value → H} {W : World} {n : Nat} {v : Value} {y : DataW H × List MemPlace} (h : DataW.trod enc Tryd.prog W 0 (fun _ => true) true n 23 [v] = some y) :
    ∃ (A : Option Addr) (l : List Int) (cap : Nat), v = .slice A l.length cap ∧ Reads W W.heap.size 1 A l.length (intsV l) ∧ l.length ≤ 9223372036854775807 := by
  rcases open_ints Tryd.underlying23 Tryd.underlying3 (by kernel_rfl) h with ⟨h1, _⟩ | ⟨a, len, cap, zs, h1, _, hl, hm, hz, _, hc, _⟩
  · injection h1 with h1
    subst h1
    exact ⟨none, [], 0, rfl, Reads.none_, by simp⟩
  · injection h1 with h1
    subst h1
    rw [if_pos rfl] at hz
    have e : (zs.take len).length = len := by rw [List.length_take]; omega
    refine ⟨some a, zs.take len, cap, by rw [e], ⟨by rw [intsV_len, e]; omega, fun h0 => ⟨a, rfl, ?_, fun j u hu => ?_⟩⟩, by rw [e]; unfold maxLen at hm; omega⟩
    · have := World.block_lt_of_cell? W _ (hc 0 (by omega))
      rwa [block_of_add] at this
    · have hj : j < len := by
        have := (List.getElem?_eq_some_iff.1 hu).1
        rw [intsV_len, e] at this; exact this
      rw [hc j (by omega)]
      rw [intsV_get (by rw [e]; exact hj)] at hu
      rw [← hu]
      simp [List.getD_eq_getElem?_getD, List.getElem?_eq_getElem (show j < zs.length by omega)]
set_option maxRecDepth 100000 in
theorem open_conf {H : Type} {enc : TypeId × Value → H} {W : World} {r : Reach} {b0 : Nat} {v : Value} {d : DataW H} {p : List MemPlace} (hv : Value.okWide Tryd.prog W r b0 25 v) (h : DataW.Trod enc Tryd.prog W 0 (fun _ => true) true 25 v d p) :
    ∃ (c : Cf) (A : Option Addr) (cap : Nat), v = c.v A cap ∧ Reads W W.heap.size 1 A c.we.length (intsV c.we) ∧ c.we.length ≤ 9223372036854775807 ∧ c.ti ≤ 9223372036854775807 ∧ c.pa ≤ 9223372036854775807 := by
  obtain ⟨v0, v1, v2, v3, v4, v5, v6, y0, y1, y2, y3, y4, y5, y6, n, rfl, t0, t1, t2, t3, t4, t5, t6⟩ := open_agg7 Tryd.underlying25 (by kernel_rfl) (by kernel_rfl) hv h
  obtain ⟨so, h0, _, _⟩ := DataW.trod_int Tryd.underlying3 t0
  obtain ⟨ro, h1, _, _⟩ := DataW.trod_int Tryd.underlying3 t1
  obtain ⟨ol, h2, _⟩ := DataW.trod_bool Tryd.underlying4 t2
  obtain ⟨A, we, cap, h3, hr, hl⟩ := reads_ints t3
  obtain ⟨qu, h4, _, _⟩ := DataW.trod_int Tryd.underlying3 t4
  obtain ⟨ti, h5, _, w5⟩ := DataW.trod_int Tryd.underlying2 t5
  obtain ⟨pa, h6, _, w6⟩ := DataW.trod_int Tryd.underlying2 t6
  injection h0 with h0; injection h1 with h1; injection h2 with h2; injection h4 with h4; injection h5 with h5; injection h6 with h6
  subst h0; subst h1; subst h2; subst h3; subst h4; subst h5; subst h6
  exact ⟨⟨so, ro, ol, we, qu, ti, pa⟩, A, cap, rfl, hr, hl, (wf64 w5).2, (wf64 w6).2⟩
theorem mem_weights {H : Type} {P : Program} {e : TypeId} {s : ByteArray} : ∀ {ss : List ByteArray}, s ∈ ss → s.data.toList.length ∈ DataW.weightsAll P e (strs (H := H) ss)
  | x :: r, h => by
    have e1 : DataW.weightsAll P e (strs (H := H) (x :: r)) = [x.data.toList.length] ++ DataW.weightsAll P e (strs (H := H) r) := by simp [strs, DataW.weightsAll, DataW.weights]
    rw [e1]
    rcases List.mem_cons.1 h with rfl | h
    · exact List.mem_append_left _ (by simp)
    · exact List.mem_append_right _ (mem_weights h)
set_option maxRecDepth 100000 in
theorem open_strsA {H : Type} {enc : TypeId × Value → H} {W : World} {r : Reach} {b0 : Nat} {v : Value} {d : DataW H} {p : List MemPlace} (hv : Value.okWide Tryd.prog W r b0 41 v) (h : DataW.Trod enc Tryd.prog W 0 (fun _ => true) true 41 v d p)
    (hw : ∀ m ∈ d.weights Tryd.prog 41, m ≤ reachBytes) :
    ∃ (A : Option Addr) (ls : List (List UInt8)) (cap : Nat), v = .slice A ls.length cap ∧ Reads W W.heap.size 1 A ls.length (strsV ls) ∧ ls.length ≤ 9223372036854775807 ∧ ∀ x ∈ ls, x.length ≤ 200000000000000 := by
  obtain ⟨a0, len0, cap0, rfl⟩ := okWide_slice Tryd.underlying41 hv
  obtain ⟨fuel, hf⟩ := h
  rcases open_strings Tryd.underlying41 Tryd.underlying9 (by kernel_rfl) hf with ⟨h1, _⟩ | ⟨a, len, cap, ss, h1, _, hl, hm, hz, hx, hc, _⟩
  · simp only [Value.cells, List.cons.injEq, and_true] at h1
    rw [h1]
    exact ⟨none, [], 0, rfl, Reads.none_, by simp, fun x hx => by cases hx⟩
  · simp only [Value.cells, List.cons.injEq, and_true] at h1
    rw [h1]
    rw [if_pos rfl] at hz
    have hd : d = .slice (strs (ss.take len)) (strs (ss.drop len)) := congrArg Prod.fst hx
    have e : ((ss.take len).map fun s => s.data.toList).length = len := by rw [List.length_map, List.length_take]; omega
    refine ⟨some a, (ss.take len).map fun s => s.data.toList, cap, by rw [e], ⟨by rw [strsV_len, e]; omega, fun h0 => ⟨a, rfl, ?_, fun j u hu => ?_⟩⟩, by rw [e]; unfold maxLen at hm; omega, fun x hx' => ?_⟩
    · have := World.block_lt_of_cell? W _ (hc 0 (by omega))
      rwa [block_of_add] at this
    · have hj : j < len := by
        have := (List.getElem?_eq_some_iff.1 hu).1
        rw [strsV_len, e] at this; exact this
      rw [hc j (by omega)]
      rw [strsV_get (by rw [e]; exact hj)] at hu
      rw [← hu]
      simp [List.getD_eq_getElem?_getD, List.getElem?_eq_getElem (show j < ss.length by omega)]
    · obtain ⟨s, hs, rfl⟩ := List.mem_map.1 hx'
      have hmem : s.data.toList.length ∈ d.weights Tryd.prog 41 := by
        rw [hd]
        simp only [DataW.weights, Tryd.underlying41]
        exact List.mem_cons_of_mem _ (List.mem_append_left _ (mem_weights hs))
      have := hw _ hmem
      unfold reachBytes at this
      omega
theorem laidOut : laidOutB Tryd.prog = true := by kernel_rfl
end Go.Proofs.YtmmmepmjmofbjaaDoor
