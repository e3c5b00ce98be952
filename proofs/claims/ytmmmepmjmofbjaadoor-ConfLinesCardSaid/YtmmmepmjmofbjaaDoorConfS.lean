/- What a configuration's text says: in plain words. -/
import Derived.Test.YtmmmepmjmofbjaaDoorSplitA
import Derived.Test.YtmmmepmjmofbjaaDoorConfA
import Derived.Test.YtmmmepmjmofbjaaDoorConfE
import Derived.Test.YtmmmepmjmofbjaaDoorConfF
import Derived.Test.YtmmmepmjmofbjaaDoorConfG
import Derived.Test.YtmmmepmjmofbjaaDoorConfH
set_option linter.unusedVariables false
namespace Go.Proofs.YtmmmepmjmofbjaaDoor
open Go Go.RowKit

def Cf.zero : Cf := ⟨0, 0, false, [], 0, 0, 0⟩
structure Rs where
  c : Cf
  seen : List Int
def st0 : Rs := ⟨⟨0, 8, false, [], 4, 0, 0⟩, []⟩
/-- what comes of a line's words -/
def oneLine (st : Rs) (ws : List (List UInt8)) : Int × Rs :=
  match ws with
  | [] => (0, st)
  | x :: r => if x.head? = some 35 then (0, st) else if placeI x = 0 then (30, st) else if st.seen.contains (placeI x) then (31, st) else
    if lineE (placeI x) r = 0 then (0, ⟨lineD st.c (placeI x) r, placeI x :: st.seen⟩) else (lineE (placeI x) r, st)
def linesGo : List (List UInt8) → Nat → Rs → Int × Nat × Rs
  | [], i, st => (0, i, st)
  | l :: ls, i, st => if (oneLine st (wordsL l)).1 = 0 then linesGo ls (i + 1) (oneLine st (wordsL l)).2 else ((oneLine st (wordsL l)).1, i, st)
def ones (n : Int) : List Int := List.replicate n.toNat 1
def finish (st : Rs) : Cf × Int × Int :=
  if st.seen.contains 1 && st.seen.contains 6 then
    (let c := if st.seen.contains 4 then st.c else { st.c with we := ones st.c.so }
     if (c.we.length : Int) = c.so then (c, 0, 0) else (Cf.zero, 34, 0))
  else (Cf.zero, 32, 0)
/-- a text's configuration, or what is wrong, and in which line -/
def readS (l : List UInt8) : Cf × Int × Int :=
  if 512 < l.length then (Cf.zero, 13, 0)
  else if (linesGo (splitL 10 l) 0 st0).1 = 0 then finish (linesGo (splitL 10 l) 0 st0).2.2 else (Cf.zero, (linesGo (splitL 10 l) 0 st0).1, ((linesGo (splitL 10 l) 0 st0).2.1 : Int) + 1)

theorem place_bd (x : List UInt8) : 0 ≤ placeI x ∧ placeI x ≤ 7 := by
  unfold placeI
  split
  · rename_i k h
    have := List.of_findIdx?_eq_some (xs := words7) (p := (· == x)) (i := k) (by simpa [List.idxOf?] using h)
    have hk : k < 7 := by
      by_cases hk : k < 7
      · exact hk
      · have : words7[k]? = none := by simp [words7]; omega
        simp [this] at *
    omega
  · omega

/-- what holds of what was read so far -/
structure Inv (st : Rs) : Prop where
  so : st.seen.contains 1 = true → 1 ≤ st.c.so ∧ st.c.so ≤ 8
  we : st.seen.contains 4 = false → st.c.we = []
  len : st.c.we.length ≤ 1000

theorem setC_we {c : Cf} {k : Int} {l : List Int} (h : k ≠ 4) : (setC c k l).we = c.we := by
  unfold setC; repeat' split
  all_goals first | rfl | (exfalso; omega)
theorem setC_so {c : Cf} {k : Int} {l : List Int} (h : k ≠ 1) : (setC c k l).so = c.so := by
  unfold setC; repeat' split
  all_goals first | rfl | (exfalso; omega)
theorem lineD_we {c : Cf} {k : Int} {ws : List (List UInt8)} (h : k ≠ 4) : (lineD c k ws).we = c.we := by
  unfold lineD; split
  · rfl
  · exact setC_we h
theorem lineD_so {c : Cf} {k : Int} {ws : List (List UInt8)} (h : k ≠ 1) : (lineD c k ws).so = c.so := by
  unfold lineD; split
  · rfl
  · exact setC_so h

theorem Inv.step {st : Rs} {ws : List (List UInt8)} (h : Inv st) (hl : ws.length ≤ 1000) (h0 : (oneLine st ws).1 = 0) : Inv (oneLine st ws).2 := by
  cases ws with
  | nil => exact h
  | cons x r =>
    simp only [oneLine] at h0 ⊢
    by_cases h1 : x.head? = some 35
    · simp only [h1, if_true]; exact h
    rw [if_neg h1] at h0 ⊢
    by_cases h2 : placeI x = 0
    · rw [if_pos h2] at h0; simp at h0
    rw [if_neg h2] at h0 ⊢
    by_cases h3 : st.seen.contains (placeI x) = true
    · rw [if_pos h3] at h0; simp at h0
    rw [if_neg h3] at h0 ⊢
    by_cases h4 : lineE (placeI x) r = 0
    · rw [if_pos h4]
      generalize placeI x = k at *
      refine ⟨?_, ?_, ?_⟩
      · intro hc
        by_cases hk : k = 1
        · subst hk
          show 1 ≤ (lineD st.c 1 r).so ∧ (lineD st.c 1 r).so ≤ 8
          have e : lineE 1 r = 0 := h4
          unfold lineE at e
          by_cases q1 : r.length = 0 ∨ (1 < r.length ∧ (1 : Int) ≠ 4)
          · rw [if_pos q1] at e; simp at e
          rw [if_neg q1, if_neg (by decide)] at e
          by_cases q2 : r.all isNum = true
          · rw [if_pos q2] at e
            by_cases q3 : (r.map numV).all (rngB 1) = true
            · cases r with
              | nil => simp at q1
              | cons y t =>
                simp only [lineD, setC, List.map_cons, List.headD_cons, List.all_cons, Bool.and_eq_true] at q3 ⊢
                have := q3.1
                simp [rngB, lowI, highI] at this
                simpa using this
            · rw [if_neg q3] at e; simp at e
          · rw [if_neg q2] at e; simp at e
        · show 1 ≤ (lineD st.c k r).so ∧ (lineD st.c k r).so ≤ 8
          rw [lineD_so hk]
          apply h.so
          simp only [List.contains_cons, Bool.or_eq_true, beq_iff_eq] at hc
          rcases hc with hc | hc
          · exact absurd hc.symm hk
          · exact hc
      · intro hc
        simp only [List.contains_cons, Bool.or_eq_false_iff, beq_eq_false_iff_ne] at hc
        show (lineD st.c k r).we = []
        rw [lineD_we (fun e => hc.1 e.symm)]
        exact h.we hc.2
      · show (lineD st.c k r).we.length ≤ 1000
        by_cases hk : k = 4
        · subst hk
          simp [lineD, setC] at *
          omega
        · rw [lineD_we hk]; exact h.len
    · rw [if_neg h4] at h0; exact absurd h0 h4
theorem go_step {L : List (List UInt8)} {q : Nat} {y : List UInt8} {st st' : Rs} (hx : q < L.length) (hy : y = L[q]) (ho : oneLine st (wordsL y) = (0, st')) : linesGo (L.drop q) q st = linesGo (L.drop (q + 1)) (q + 1) st' := by
  rw [List.drop_eq_getElem_cons hx, ← hy]
  show (if _ then _ else _) = _
  rw [ho, if_pos rfl]
theorem go_err {L : List (List UInt8)} {q : Nat} {y : List UInt8} {st : Rs} {e : Int} (hx : q < L.length) (hy : y = L[q]) (ho : (oneLine st (wordsL y)).1 = e) (he : e ≠ 0) : linesGo (L.drop q) q st = (e, q, st) := by
  rw [List.drop_eq_getElem_cons hx, ← hy]
  show (if _ then _ else _) = _
  rw [ho, if_neg he]
theorem go_end {L : List (List UInt8)} {q : Nat} {st : Rs} (hx : L.length ≤ q) : linesGo (L.drop q) q st = (0, q, st) := by
  rw [List.drop_eq_nil_of_le hx]; rfl
theorem readS_err {l : List UInt8} {e : Int} {q : Nat} {st : Rs} (h : ¬ 512 < l.length) (hg : linesGo (splitL 10 l) 0 st0 = (e, q, st)) (he : e ≠ 0) : readS l = (Cf.zero, e, (q : Int) + 1) := by
  unfold readS; rw [if_neg h, hg, if_neg he]
theorem readS_ok {l : List UInt8} {q : Nat} {st : Rs} (h : ¬ 512 < l.length) (hg : linesGo (splitL 10 l) 0 st0 = (0, q, st)) : readS l = finish st := by
  unfold readS; rw [if_neg h, hg, if_pos rfl]
theorem one_key {st : Rs} {x : List UInt8} {r : List (List UInt8)} (h : ¬ x.head? = some 35) (h0 : placeI x = 0) : oneLine st (x :: r) = (30, st) := by
  simp only [oneLine]; rw [if_neg h, if_pos h0]
theorem one_twice {st : Rs} {x : List UInt8} {r : List (List UInt8)} (h : ¬ x.head? = some 35) (h0 : ¬ placeI x = 0) (hs : st.seen.contains (placeI x) = true) : oneLine st (x :: r) = (31, st) := by
  simp only [oneLine]; rw [if_neg h, if_neg h0, if_pos hs]
theorem one_bad {st : Rs} {x : List UInt8} {r : List (List UInt8)} (h : ¬ x.head? = some 35) (h0 : ¬ placeI x = 0) (hs : st.seen.contains (placeI x) = false) (he : ¬ lineE (placeI x) r = 0) : oneLine st (x :: r) = (lineE (placeI x) r, st) := by
  simp only [oneLine]; rw [if_neg h, if_neg h0, if_neg (by simpa using hs), if_neg he]
theorem one_good {st : Rs} {x : List UInt8} {r : List (List UInt8)} (h : ¬ x.head? = some 35) (h0 : ¬ placeI x = 0) (hs : st.seen.contains (placeI x) = false) (he : lineE (placeI x) r = 0) : oneLine st (x :: r) = (0, ⟨lineD st.c (placeI x) r, placeI x :: st.seen⟩) := by
  simp only [oneLine]; rw [if_neg h, if_neg h0, if_neg (by simpa using hs), if_pos he]
theorem one_rem {st : Rs} {x : List UInt8} {r : List (List UInt8)} (h : x.head? = some 35) : oneLine st (x :: r) = (0, st) := by
  simp only [oneLine]; rw [if_pos h]
theorem Inv.start : Inv st0 := ⟨by simp [st0], by simp [st0], by simp [st0]⟩
end Go.Proofs.YtmmmepmjmofbjaaDoor
