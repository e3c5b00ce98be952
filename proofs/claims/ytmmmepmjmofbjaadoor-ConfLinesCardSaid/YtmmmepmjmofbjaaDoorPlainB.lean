/- Plain laws: strings.Split by one byte is splitL. -/
import Derived.Test.YtmmmepmjmofbjaaDoorSplitA
import Derived.Test.YtmmmepmjmofbjaaDoorConfE
import Derived.Lib.SplitLaws
import Derived.Lib.CountLaws
import Derived.Lib.IndexLaws
import Derived.Lib.IndexBytes
import Derived.Lib.FieldsP
import Derived.Lib.DecodeN
import Derived.Lib.TrimU
import Derived.Laws.RangeAny
import Derived.Laws.RangeString
set_option linter.unusedVariables false
namespace Go.Proofs.YtmmmepmjmofbjaaDoor
open Go Go.RowKit

theorem splitL_none {c : UInt8} : ∀ {l : List UInt8}, (∀ k : Nat, l[k]? ≠ some c) → splitL c l = [l]
  | [], _ => rfl
  | x :: r, h => by
    have h0 : ¬ x = c := fun e => h 0 (by simp [e])
    have ih := splitL_none (c := c) (l := r) fun k => h (k + 1)
    simp only [splitL, if_neg h0, ih]
theorem splitL_hit {c : UInt8} : ∀ {l : List UInt8} {o : Nat}, l[o]? = some c → (∀ k : Nat, k < o → l[k]? ≠ some c) → splitL c l = l.take o :: splitL c (l.drop (o + 1))
  | [], o, h, _ => by simp at h
  | x :: r, 0, h, _ => by
    simp at h
    subst h
    simp [splitL]
  | x :: r, o + 1, h, hn => by
    have h0 : ¬ x = c := fun e => hn 0 (by omega) (by simp [e])
    have ih := splitL_hit (c := c) (l := r) (o := o) (by simpa using h) fun k hk => hn (k + 1) (by omega)
    simp only [splitL, if_neg h0, ih, List.take_succ_cons, List.drop_succ_cons]
theorem ext_take (l : List UInt8) (i : Nat) : (bs l).extract 0 i = bs (l.take i) := by
  apply ByteArray.ext
  apply Array.ext'
  simp [ByteArray.data_extract, Array.toList_extract, List.extract_eq_take_drop]
theorem ext_drop (l : List UInt8) (i : Nat) : (bs l).extract i (bs l).size = bs (l.drop i) := by
  apply ByteArray.ext
  apply Array.ext'
  simp [ByteArray.data_extract, Array.toList_extract, List.extract_eq_take_drop, bs_size]
  exact List.take_of_length_le (by simp)
theorem split_eq (c : UInt8) : ∀ (m : Nat) (l : List UInt8), l.length ≤ m → Lib.splitB (bs [c]) 0 (Lib.countB (bs l) (bs [c])) (bs l) = (splitL c l).map bs
  | m, l, hm => by
    have hix : ∀ l : List UInt8, Lib.indexB (bs l) (bs [c]) = Lib.indexByte l c := fun l => Lib.index_one l c
    rcases Lib.indexB_cases (bs l) (bs [c]) with h | ⟨i, h, hi⟩
    · rw [Lib.splitB_miss _ _ _ _ h, splitL_none (Lib.indexByte_none ((hix l).symm.trans h))]
      rfl
    · have hs := Lib.indexByte_some ((hix l).symm.trans h)
      have hz : (bs [c]).size = 1 := rfl
      rw [Lib.countB_hit _ _ i (by rw [hz]; omega) h, Nat.add_comm, Lib.splitB_hit _ _ _ _ i h, hz, ext_drop, Nat.add_zero, ext_take, splitL_hit hs.1 hs.2, List.map_cons]
      have hl : i + 1 ≤ l.length := by rw [hz, bs_size] at hi; exact hi
      match m, hm with
      | 0, hm => omega
      | m + 1, hm => rw [split_eq c m (l.drop (i + 1)) (by rw [List.length_drop]; omega)]
theorem split_len (c : UInt8) (l : List UInt8) : Lib.countB (bs l) (bs [c]) + 1 = (splitL c l).length := by
  have := congrArg List.length (split_eq c l.length l (Nat.le_refl _))
  rw [Lib.splitB_all (bs [c]) (by show 1 ≤ 1; omega) 0 _ _ rfl, List.length_map] at this
  exact this

/-- what a rune's width says of its bytes -/
theorem decodeN_w (n b0 b1 b2 b3 : Nat) : (Lib.decodeN n b0 b1 b2 b3).2 = 1 ∨ ((Lib.decodeN n b0 b1 b2 b3).2 = 2 ∧ 1 < n ∧ b1 / 64 = 2) ∨ ((Lib.decodeN n b0 b1 b2 b3).2 = 3 ∧ 2 < n ∧ b1 / 64 = 2 ∧ b2 / 64 = 2) ∨
    ((Lib.decodeN n b0 b1 b2 b3).2 = 4 ∧ 3 < n ∧ b1 / 64 = 2 ∧ b2 / 64 = 2 ∧ b3 / 64 = 2) := by
  unfold Lib.decodeN
  split
  · exact .inl rfl
  split
  · rename_i h; split
    · exact .inr (.inl ⟨rfl, h.2.1, h.2.2⟩)
    · exact .inl rfl
  split
  · rename_i h; split
    · exact .inr (.inr (.inl ⟨rfl, h.2.2.1, h.2.1.2, h.2.2.2⟩))
    · exact .inl rfl
  split
  · rename_i h; split
    · exact .inr (.inr (.inr ⟨rfl, h.2.2.2.1, h.2.1.2, h.2.2.1.2, h.2.2.2.2⟩))
    · exact .inl rfl
  · exact .inl rfl
end Go.Proofs.YtmmmepmjmofbjaaDoor
