/- What lookoutref17.Split computes: the parts of a text between bytes. -/
import Derived.Test.YtmmmepmjmofbjaaDoorProg
import Derived.Test.YtmmmepmjmofbjaaDoorInf
set_option linter.unusedVariables false
namespace Go.Proofs.YtmmmepmjmofbjaaDoor
open Go Go.RowKit

/-- the parts of a text between bytes 'b' -/
def splitL (b : UInt8) : List UInt8 → List (List UInt8)
  | [] => [[]]
  | c :: r => if c = b then [] :: splitL b r else match splitL b r with | [] => [[c]] | p :: ps => (c :: p) :: ps
/-- the same from the left: what is done, and the part at hand -/
def splitStep (b : UInt8) (st : List (List UInt8) × List UInt8) (c : UInt8) : List (List UInt8) × List UInt8 :=
  if c = b then (st.1 ++ [st.2], []) else (st.1, st.2 ++ [c])
theorem splitL_ne (b : UInt8) (l : List UInt8) : splitL b l ≠ [] := by
  cases l with
  | nil => simp [splitL]
  | cons c r => simp only [splitL]; split
                · simp
                · split <;> simp
theorem split_fold (b : UInt8) (l : List UInt8) : ∀ o p, (l.foldl (splitStep b) (o, p)).1 ++ [(l.foldl (splitStep b) (o, p)).2] = o ++ (match splitL b l with | [] => [p] | q :: qs => (p ++ q) :: qs) := by
  induction l with
  | nil => intro o p; simp [splitL]
  | cons c r ih =>
    intro o p
    simp only [List.foldl_cons, splitStep, splitL]
    by_cases h : c = b
    · simp only [h, if_true, ih]
      have := splitL_ne b r
      cases hs : splitL b r with
      | nil => exact absurd hs this
      | cons q qs => simp
    · simp only [h, if_false, ih]
      cases hs : splitL b r <;> simp
theorem split_fold0 (b : UInt8) (l : List UInt8) : (l.foldl (splitStep b) ([], [])).1 ++ [(l.foldl (splitStep b) ([], [])).2] = splitL b l := by
  rw [split_fold]
  cases hs : splitL b l with
  | nil => exact absurd hs (splitL_ne b l)
  | cons q qs => simp
/-- after k bytes -/
def splitAt_ (b : UInt8) (l : List UInt8) (k : Nat) : List (List UInt8) × List UInt8 := (l.take k).foldl (splitStep b) ([], [])
theorem splitAt_succ (b : UInt8) (l : List UInt8) (k : Nat) (h : k < l.length) : splitAt_ b l (k + 1) = splitStep b (splitAt_ b l k) l[k] := by
  simp only [splitAt_, List.take_succ_eq_append_getElem h, List.foldl_append, List.foldl_cons, List.foldl_nil]
theorem splitAt_len (b : UInt8) (l : List UInt8) (k : Nat) (h : k ≤ l.length) : (splitAt_ b l k).1.length ≤ k ∧ (splitAt_ b l k).2.length ≤ k := by
  induction k with
  | zero => simp [splitAt_]
  | succ k ih =>
    rw [splitAt_succ b l k (by omega)]
    have := ih (by omega)
    simp only [splitStep]
    split <;> simp <;> omega
theorem splitAt_all (b : UInt8) (l : List UInt8) : (splitAt_ b l l.length).1 ++ [(splitAt_ b l l.length).2] = splitL b l := by
  simp only [splitAt_, List.take_length, split_fold0]

theorem El41 : El Tryd.prog 41 9 (.string ⟨#[]⟩) 1 16 := ⟨by kernel_rfl, by kernel_rfl, rfl, by decide, by decide⟩

set_option maxHeartbeats 800000 in
theorem split_any (s : ByteArray) (b : UInt8) (w : World) (hs : s.size ≤ 1000000) :
    Calls Tryd.prog 23 #[.string s, .int .u8 b.toNat] w fun e w' => ∃ A c, e = .returned (.slice A (splitL b s.data.toList).length c) ∧ (splitL b s.data.toList).length ≤ c ∧
      RdP w' (NewP w.heap.size w') 1 A (splitL b s.data.toList).length ((splitL b s.data.toList).map fun l => Value.string (bs l)) ∧ Below w.heap.size w w' := by
  go_enter Tryd.func23, Tryd.ntmps23
  go_wp2
  go_loopw [5, 6, 7] (fun v p i wr => ∃ k : Nat, k ≤ s.size ∧ i = .int .i64 k ∧ p = .string (bs (splitAt_ b s.data.toList k).2) ∧
      wr.ownsRow w.heap.size 9 1 v (splitAt_ b s.data.toList k).1.length ((splitAt_ b s.data.toList k).1.map fun l => Value.string (bs l)) ∧ Below w.heap.size w wr)
    (fun _ _ i _ => s.size - (intOf i).toNat)
  case atStart => exact ⟨0, Nat.zero_le _, rfl, rfl, World.ownsRow_nil _ _ _ _, Below.refl _ _⟩
  case round =>
    obtain ⟨k, hk, rfl, rfl, hown, hb⟩ := hrel
    have hl := splitAt_len b s.data.toList k (by rw [← size_eq]; exact hk)
    obtain ⟨hl1, hl2⟩ := hl
    have hB := hb.size
    go_wp2_with (at_builtin; refine wpList_app1 El41 rfl _ _ rfl rfl hown rfl rfl (by simp [Value.oneCell']) (by omega) hB hb ?_; intro v' w1 hown' hb')
    · have he : s.data.toList[k]'(by rw [← size_eq]; assumption) = b := eq_of_beq8 ‹_›
      have hk1 : k < s.size := by assumption
      have hst := splitAt_succ b s.data.toList k (by rw [← size_eq]; exact hk1)
      simp only [splitStep, he, if_true] at hst
      go_roundw
      case rel => exact ⟨k + 1, by omega, by go_num, by rw [hst], by rw [hst]; simpa using hown', hb'⟩
      case measure => simp [intOf]; omega
    · have he : ¬ s.data.toList[k]'(by rw [← size_eq]; assumption) = b := ne_of_beq8 ‹_›
      have hk1 : k < s.size := by assumption
      have hst := splitAt_succ b s.data.toList k (by rw [← size_eq]; exact hk1)
      simp only [splitStep, he, if_false] at hst
      go_roundw
      case rel => exact ⟨k + 1, by omega, by go_num, by rw [hst, extract_one s k hk1], by rw [hst]; exact hown, hb⟩
      case measure => simp [intOf]; omega
    · have hk1 : ¬ k < s.size := by assumption
      have hkk : k = s.data.toList.length := by rw [← size_eq]; omega
      have hall := splitAt_all b s.data.toList
      rw [← hkk] at hall
      go_ret
      have hown2 : w1.ownsRow w.heap.size 9 1 v' (splitL b s.data.toList).length ((splitL b s.data.toList).map fun l => Value.string (bs l)) := by
        rw [← hall]; simpa using hown'
      obtain ⟨A, c, rfl, hc, hr⟩ := RdP.of_own hown2
      exact ⟨A, c, rfl, hc, hr, hb'⟩
end Go.Proofs.YtmmmepmjmofbjaaDoor
