/- A configuration's text, in plain words. -/
import Derived.Test.YtmmmepmjmofbjaaDoorConfR
import Derived.Lib.Itoa
import Derived.Lib.ItoaLen
set_option linter.unusedVariables false
namespace Go.Proofs.YtmmmepmjmofbjaaDoor
open Go Go.RowKit

/-- a number of setting k, as a word -/
def wordOf (k : Nat) (x : Int) : List UInt8 := if k = 2 then (if x = 0 then [116, 97, 105, 108] else [111, 108, 100, 101, 115, 116]) else Lib.itoa x
def numsOf (k : Nat) (l : List Int) : List UInt8 := l.flatMap fun x => 32 :: wordOf k x
def lineOf (c : Cf) (k : Nat) : List UInt8 := words7.getD k [] ++ numsOf k (tellL c k) ++ [10]
def linesTo (c : Cf) (k : Nat) : List UInt8 := (List.range k).flatMap (lineOf c)
def showS (c : Cf) : List UInt8 := if checkE c = 0 then linesTo c 7 else []
theorem linesTo_succ (c : Cf) (k : Nat) : linesTo c (k + 1) = linesTo c k ++ lineOf c k := by simp [linesTo, List.range_succ]
theorem numsOf_snoc (k : Nat) (l : List Int) (x : Int) : numsOf k (l ++ [x]) = numsOf k l ++ (32 :: wordOf k x) := by simp [numsOf]
theorem check_zero {c : Cf} (h : checkE c = 0) : fieldsOk c = true ∧ c.we.all wOk = true ∧ (c.we.length : Int) = c.so := by
  unfold checkE at h
  by_cases h1 : (fieldsOk c && c.we.all wOk) = true
  · rw [if_pos h1] at h
    by_cases h2 : (c.we.length : Int) = c.so
    · rw [Bool.and_eq_true] at h1
      exact ⟨h1.1, h1.2, h2⟩
    · rw [if_neg h2] at h; cases h
  · rw [if_neg h1] at h; cases h
theorem tell_rng {c : Cf} (h : checkE c = 0) (ht : c.ti ≤ 9223372036854775807) (hp : c.pa ≤ 9223372036854775807) (k : Nat) (hk : k < 7) : ∀ x ∈ tellL c k, 0 ≤ x ∧ x ≤ 9223372036854775807 := by
  obtain ⟨h1, h2, h3⟩ := check_zero h
  obtain ⟨so, ro, ol, we, qu, ti, pa⟩ := c
  simp [fieldsOk] at h1
  simp only at ht hp h2
  match k, hk with
  | 0, _ | 1, _ | 4, _ | 5, _ | 6, _ => intro x hx; simp [tellL] at hx; subst hx; omega
  | 2, _ => intro x hx; cases ol <;> simp [tellL] at hx <;> subst hx <;> decide
  | 3, _ =>
    intro x hx
    have := List.all_eq_true.1 h2 x hx
    simp [wOk] at this
    omega
theorem word_len {k : Nat} {x : Int} (h : 0 ≤ x ∧ x ≤ 9223372036854775807) : (wordOf k x).length ≤ 21 := by
  unfold wordOf
  split
  · split <;> decide
  · exact Lib.itoa_length_le x (by omega) h.2
theorem nums_len {k : Nat} : ∀ {l : List Int}, (∀ x ∈ l, 0 ≤ x ∧ x ≤ 9223372036854775807) → (numsOf k l).length ≤ 22 * l.length
  | [], _ => by simp [numsOf]
  | x :: r, h => by
    have h1 := word_len (k := k) (h x (by simp))
    have h2 := nums_len (k := k) (l := r) fun y hy => h y (List.mem_cons_of_mem _ hy)
    simp only [numsOf, List.flatMap_cons, List.length_append, List.length_cons] at h2 ⊢
    omega
theorem lines_len {c : Cf} (hl : c.we.length ≤ 1000) (h : ∀ k, k < 7 → ∀ x ∈ tellL c k, 0 ≤ x ∧ x ≤ 9223372036854775807) : ∀ k, k ≤ 7 → (linesTo c k).length ≤ 30000 * k
  | 0, _ => by simp [linesTo]
  | k + 1, hk => by
    have h1 := lines_len hl h k (by omega)
    have h2 := nums_len (k := k) (h k (by omega))
    have h3 : (tellL c k).length ≤ 1000 := by
      have : k = 0 ∨ k = 1 ∨ k = 2 ∨ k = 3 ∨ k = 4 ∨ k = 5 ∨ k = 6 := by omega
      rcases this with rfl | rfl | rfl | rfl | rfl | rfl | rfl <;> first | exact hl | (simp [tellL])
    have h4 : (words7.getD k []).length ≤ 10 := by
      have : k = 0 ∨ k = 1 ∨ k = 2 ∨ k = 3 ∨ k = 4 ∨ k = 5 ∨ k = 6 := by omega
      rcases this with rfl | rfl | rfl | rfl | rfl | rfl | rfl <;> decide
    rw [linesTo_succ]
    simp only [lineOf, List.length_append, List.length_cons, List.length_nil]
    omega
end Go.Proofs.YtmmmepmjmofbjaaDoor
