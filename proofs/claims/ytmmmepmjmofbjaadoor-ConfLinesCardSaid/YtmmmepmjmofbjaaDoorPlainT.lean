/- Plain: what is read checks; where something is wrong the configuration is empty. No Go in sight. -/
import Derived.Test.YtmmmepmjmofbjaaDoorInf
import Derived.Test.YtmmmepmjmofbjaaDoorConfS
import Derived.Test.YtmmmepmjmofbjaaDoorConfV
set_option linter.unusedVariables false
namespace Go.Proofs.YtmmmepmjmofbjaaDoor
open Go Go.RowKit

/-- what holds of all that was read -/
structure Inv2 (st : Rs) : Prop where
  so : st.seen.contains 1 = true → 1 ≤ st.c.so ∧ st.c.so ≤ 8
  ro : 1 ≤ st.c.ro ∧ st.c.ro ≤ 64
  qu : 1 ≤ st.c.qu ∧ st.c.qu ≤ 64
  ti : st.seen.contains 6 = true → 1 ≤ st.c.ti
  tm : st.c.ti ≤ 9223372036854775807
  pa : 0 ≤ st.c.pa ∧ st.c.pa ≤ 9223372036854775807
  we : st.c.we.all wOk = true
theorem Inv2.start : Inv2 st0 := ⟨by simp [st0], by simp [st0], by simp [st0], by simp [st0], by simp [st0], by simp [st0], rfl⟩
theorem line_zero {k : Int} {r : List (List UInt8)} (h : lineE k r = 0) : r ≠ [] ∧ (k ≠ 3 → (r.map numV).all (rngB k) = true) := by
  unfold lineE at h
  by_cases q1 : r.length = 0 ∨ (1 < r.length ∧ k ≠ 4)
  · rw [if_pos q1] at h; simp at h
  rw [if_neg q1] at h
  refine ⟨by rintro rfl; simp at q1, fun h3 => ?_⟩
  rw [if_neg h3] at h
  by_cases q2 : r.all isNum = true
  · rw [if_pos q2] at h
    by_cases q3 : (r.map numV).all (rngB k) = true
    · exact q3
    · rw [if_neg q3] at h; simp at h
  · rw [if_neg q2] at h; simp at h
theorem Inv2.line {st : Rs} (h : Inv2 st) {k : Int} {r : List (List UInt8)} (hk : 1 ≤ k ∧ k ≤ 7) (h0 : lineE k r = 0) : Inv2 ⟨lineD st.c k r, k :: st.seen⟩ := by
  obtain ⟨hne, hr⟩ := line_zero h0
  obtain ⟨hso, hro, hqu, hti, htm, hpa, hwe⟩ := h
  obtain ⟨⟨so, ro, ol, we, qu, ti, pa⟩, seen⟩ := st
  simp only at hso hro hqu hti htm hpa hwe
  have hk' : k = 1 ∨ k = 2 ∨ k = 3 ∨ k = 4 ∨ k = 5 ∨ k = 6 ∨ k = 7 := by omega
  cases r with
  | nil => exact absurd rfl hne
  | cons y t =>
  rcases hk' with rfl | rfl | rfl | rfl | rfl | rfl | rfl
  · have h1 := hr (by decide)
    simp [rngB, lowI, highI] at h1
    exact ⟨fun _ => by simp [lineD, setC]; omega, hro, hqu, fun e => hti (by simpa using e), htm, hpa, hwe⟩
  · have h1 := hr (by decide)
    simp [rngB, lowI, highI] at h1
    exact ⟨fun e => hso (by simpa using e), by simp [lineD, setC]; omega, hqu, fun e => hti (by simpa using e), htm, hpa, hwe⟩
  · exact ⟨fun e => hso (by simpa using e), hro, hqu, fun e => hti (by simpa using e), htm, hpa, hwe⟩
  · have h1 := hr (by decide)
    refine ⟨fun e => hso (by simpa using e), hro, hqu, fun e => hti (by simpa using e), htm, hpa, ?_⟩
    rw [List.all_eq_true] at h1 ⊢
    intro x hx
    have := h1 x (by simpa [lineD, setC] using hx)
    simpa [rngB, lowI, highI, wOk] using this
  · have h1 := hr (by decide)
    simp [rngB, lowI, highI] at h1
    exact ⟨fun e => hso (by simpa using e), hro, by simp [lineD, setC]; omega, fun e => hti (by simpa using e), htm, hpa, hwe⟩
  · have h1 := hr (by decide)
    simp [rngB, lowI, highI] at h1
    exact ⟨fun e => hso (by simpa using e), hro, hqu, fun _ => by simp [lineD, setC]; omega, by simp [lineD, setC]; omega, hpa, hwe⟩
  · have h1 := hr (by decide)
    simp [rngB, lowI, highI] at h1
    exact ⟨fun e => hso (by simpa using e), hro, hqu, fun e => hti (by simpa using e), htm, by simp [lineD, setC]; omega, hwe⟩
theorem Inv2.step {st : Rs} (h : Inv2 st) (ws : List (List UInt8)) (h0 : (oneLine st ws).1 = 0) : Inv2 (oneLine st ws).2 := by
  cases ws with
  | nil => exact h
  | cons x r =>
    simp only [oneLine] at h0 ⊢
    by_cases h1 : x.head? = some 35
    · rw [if_pos h1]; exact h
    rw [if_neg h1] at h0 ⊢
    by_cases h2 : placeI x = 0
    · rw [if_pos h2] at h0; simp at h0
    rw [if_neg h2] at h0 ⊢
    by_cases h3 : st.seen.contains (placeI x) = true
    · rw [if_pos h3] at h0; simp at h0
    rw [if_neg h3] at h0 ⊢
    by_cases h4 : lineE (placeI x) r = 0
    · rw [if_pos h4]
      have := place_bd x
      exact h.line (by omega) h4
    · rw [if_neg h4] at h0; exact absurd h0 h4
theorem linesGo_inv2 : ∀ (ls : List (List UInt8)) (i : Nat) (st : Rs), Inv2 st → Inv2 (linesGo ls i st).2.2
  | [], _, _, h => h
  | l :: ls, i, st, h => by
    simp only [linesGo]
    by_cases h0 : (oneLine st (wordsL l)).1 = 0
    · rw [if_pos h0]; exact linesGo_inv2 ls (i + 1) _ (h.step _ h0)
    · rw [if_neg h0]; exact h
theorem ones_ok (n : Int) : (ones n).all wOk = true := by
  rw [List.all_eq_true]; intro x hx; rw [(List.mem_replicate.1 hx).2]; rfl
theorem finish_good {st : Rs} (h : Inv2 st) {c : Cf} {k : Int} (hf : finish st = (c, 0, k)) : checkE c = 0 ∧ c.ti ≤ 9223372036854775807 ∧ c.pa ≤ 9223372036854775807 ∧ k = 0 := by
  unfold finish at hf
  by_cases h1 : (st.seen.contains 1 && st.seen.contains 6) = true
  · rw [if_pos h1] at hf
    rw [Bool.and_eq_true] at h1
    have hso := h.so h1.1
    have hti := h.ti h1.2
    have hx : ∃ d : Cf, d = (if st.seen.contains 4 then st.c else { st.c with we := ones st.c.so }) ∧ d.so = st.c.so ∧ d.ro = st.c.ro ∧ d.qu = st.c.qu ∧ d.ti = st.c.ti ∧ d.pa = st.c.pa ∧ d.we.all wOk = true := by
      refine ⟨_, rfl, ?_⟩
      split
      · exact ⟨rfl, rfl, rfl, rfl, rfl, h.we⟩
      · exact ⟨rfl, rfl, rfl, rfl, rfl, ones_ok _⟩
    obtain ⟨d, hd, e1, e2, e3, e4, e5, e6⟩ := hx
    simp only [← hd] at hf
    by_cases h2 : (d.we.length : Int) = d.so
    · rw [if_pos h2] at hf
      simp only [Prod.mk.injEq] at hf
      obtain ⟨rfl, _, rfl⟩ := hf
      have := h.ro; have := h.qu; have := h.tm; have := h.pa
      refine ⟨?_, by omega, by omega, rfl⟩
      unfold checkE
      have hfo : fieldsOk d = true := by simp [fieldsOk]; omega
      rw [hfo, e6, Bool.and_self, if_pos rfl, if_pos h2]
    · rw [if_neg h2] at hf; simp at hf
  · rw [if_neg h1] at hf; simp at hf
theorem finish_bad {st : Rs} {c : Cf} {e k : Int} (hf : finish st = (c, e, k)) (he : e ≠ 0) : c = Cf.zero := by
  unfold finish at hf
  by_cases h1 : (st.seen.contains 1 && st.seen.contains 6) = true
  · rw [if_pos h1] at hf
    simp only at hf
    generalize (if st.seen.contains 4 then st.c else { st.c with we := ones st.c.so } : Cf) = d at hf
    by_cases h2 : (d.we.length : Int) = d.so
    · rw [if_pos h2] at hf
      simp only [Prod.mk.injEq] at hf; exact absurd hf.2.1.symm he
    · rw [if_neg h2] at hf
      simp only [Prod.mk.injEq] at hf; exact hf.1.symm
  · rw [if_neg h1] at hf
    simp only [Prod.mk.injEq] at hf; exact hf.1.symm
/-- what is read checks -/
theorem read_checks {l : List UInt8} {c : Cf} {k : Int} (h : readS l = (c, 0, k)) : checkE c = 0 ∧ c.ti ≤ 9223372036854775807 ∧ c.pa ≤ 9223372036854775807 ∧ k = 0 := by
  unfold readS at h
  by_cases h1 : 512 < l.length
  · rw [if_pos h1] at h; simp at h
  rw [if_neg h1] at h
  by_cases h2 : (linesGo (splitL 10 l) 0 st0).1 = 0
  · rw [if_pos h2] at h
    exact finish_good (linesGo_inv2 _ _ _ Inv2.start) h
  · rw [if_neg h2] at h
    simp only [Prod.mk.injEq] at h
    exact absurd h.2.1 h2
theorem read_bad {l : List UInt8} {c : Cf} {e k : Int} (h : readS l = (c, e, k)) (he : e ≠ 0) : c = Cf.zero := by
  unfold readS at h
  by_cases h1 : 512 < l.length
  · rw [if_pos h1] at h; simp only [Prod.mk.injEq] at h; exact h.1.symm
  rw [if_neg h1] at h
  by_cases h2 : (linesGo (splitL 10 l) 0 st0).1 = 0
  · rw [if_pos h2] at h; exact finish_bad h he
  · rw [if_neg h2] at h; simp only [Prod.mk.injEq] at h; exact h.1.symm
end Go.Proofs.YtmmmepmjmofbjaaDoor
