/- Plain lemmas: the shelf's words for Split and ParseInt against ours. -/
import Derived.Test.YtmmmepmjmofbjaaDoorInf
import Derived.Test.YtmmmepmjmofbjaaDoorSplitA
import Derived.Test.YtmmmepmjmofbjaaDoorConfB
import Derived.Lib.Split
import Derived.Lib.ParseIntB
set_option linter.unusedVariables false
namespace Go.Proofs.YtmmmepmjmofbjaaDoor
open Go Go.RowKit

theorem valN_fold (l : List UInt8) : ∀ a : Nat, l.foldl (fun n c => n * 10 + (c.toNat - 48)) a = a * 10 ^ l.length + valN l := by
  unfold valN
  induction l with
  | nil => intro a; simp
  | cons c r ih =>
    intro a
    simp only [List.foldl_cons, List.length_cons]
    rw [ih (a * 10 + (c.toNat - 48)), ih (0 * 10 + (c.toNat - 48)), Nat.pow_succ, Nat.add_mul, Nat.zero_mul, Nat.zero_add]
    have : a * 10 * 10 ^ r.length = a * (10 ^ r.length * 10) := by rw [Nat.mul_assoc, Nat.mul_comm 10]
    omega
theorem parseUintM_ok (l : List UInt8) (hd : digB l = true) : ∀ acc : Nat, acc ≤ 18446744073709551615 →
    (l.foldl (fun n c => n * 10 + (c.toNat - 48)) acc ≤ 18446744073709551615 → Lib.parseUintM 18446744073709551615 acc l = .ok (l.foldl (fun n c => n * 10 + (c.toNat - 48)) acc)) ∧
    (18446744073709551615 < l.foldl (fun n c => n * 10 + (c.toNat - 48)) acc → Lib.parseUintM 18446744073709551615 acc l = .range) := by
  induction l with
  | nil => intro acc ha; simp [Lib.parseUintM]; omega
  | cons c r ih =>
    intro acc ha
    have hc : 48 ≤ c.toNat ∧ c.toNat ≤ 57 := by simp [digB] at hd; exact hd.1
    have hr : digB r = true := by simp [digB] at hd ⊢; exact hd.2
    simp only [Lib.parseUintM, hc, and_self, if_true, List.foldl_cons]
    have mono : ∀ x y : Nat, x ≤ y → r.foldl (fun n c => n * 10 + (c.toNat - 48)) x ≤ r.foldl (fun n c => n * 10 + (c.toNat - 48)) y := by
      intro x y h
      rw [valN_fold, valN_fold]
      have := Nat.mul_le_mul_right (10 ^ r.length) h
      omega
    have ge : ∀ x : Nat, x ≤ r.foldl (fun n c => n * 10 + (c.toNat - 48)) x := by
      intro x
      rw [valN_fold]
      have := Nat.one_le_pow r.length 10 (by decide)
      have := Nat.mul_le_mul_left x this
      omega
    by_cases h1 : 1844674407370955162 ≤ acc
    · rw [if_pos h1]
      have := ge (acc * 10 + (c.toNat - 48))
      constructor
      · intro h; omega
      · intro _; rfl
    · rw [if_neg h1]
      by_cases h2 : 18446744073709551615 < acc * 10 + (c.toNat - 48)
      · rw [if_pos h2]
        have := ge (acc * 10 + (c.toNat - 48))
        constructor
        · intro h; omega
        · intro _; rfl
      · rw [if_neg h2]
        exact ih hr _ (by omega)
theorem parse_num {l : List UInt8} (h : isNum l = true) :
    ((valN l : Int) ≤ 9223372036854775807 → Lib.parseIntB 64 l = .ok (valN l : Int)) ∧ (¬ (valN l : Int) ≤ 9223372036854775807 → Lib.parseIntB 64 l = .range) := by
  have hd : digB l = true := by simp [isNum] at h; exact h.1.1
  cases l with
  | nil => simp [isNum] at h
  | cons c r =>
    have hc : 48 ≤ c.toNat ∧ c.toNat ≤ 57 := by simp [digB] at hd; exact hd.1
    have h43 : ¬ (c.toNat = 43) := by omega
    have h45 : ¬ (c.toNat = 45) := by omega
    have hp := parseUintM_ok (c :: r) hd 0 (by omega)
    have hv : (c :: r).foldl (fun n c => n * 10 + (c.toNat - 48)) 0 = valN (c :: r) := rfl
    rw [hv] at hp
    have e64 : (2 ^ 64 - 1 : Nat) = 18446744073709551615 := by decide
    have e63 : (2 ^ (64 - 1) : Nat) = 9223372036854775808 := by decide
    have hu : Lib.parseUintB 64 (c :: r) = Lib.parseUintM 18446744073709551615 0 (c :: r) := by
      unfold Lib.parseUintB; rw [if_neg (by simp), e64]
    unfold Lib.parseIntB
    simp only [h43, h45, or_self, if_false, hu, not_false_eq_true, true_and, e63, false_and]
    generalize valN (c :: r) = v at hp ⊢
    constructor
    · intro hle
      rw [hp.1 (by omega)]
      simp only []
      rw [if_neg (by omega)]
    · intro hgt
      by_cases h64 : v ≤ 18446744073709551615
      · rw [hp.1 h64]
        simp only []
        rw [if_pos (by omega)]
      · rw [hp.2 (by omega)]
end Go.Proofs.YtmmmepmjmofbjaaDoor
