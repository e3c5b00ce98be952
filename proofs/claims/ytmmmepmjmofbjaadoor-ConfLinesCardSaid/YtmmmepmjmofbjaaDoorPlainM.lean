/- Plain: the two texts of the law ConfLines. No Go in sight. -/
import Derived.Test.YtmmmepmjmofbjaaDoorInf
import Derived.Test.YtmmmepmjmofbjaaDoorPlainL
set_option linter.unusedVariables false
namespace Go.Proofs.YtmmmepmjmofbjaaDoor
open Go Go.RowKit

def nl (x : List UInt8) : List UInt8 := x ++ [10]
/-- what is added to the second text for a line -/
def padL (b x : List UInt8) : List UInt8 := [35, 32] ++ b ++ [10] ++ b ++ x ++ b ++ [10]
def sL (ls : List (List UInt8)) (k : Nat) : List UInt8 := (ls.take k).flatMap nl
def turned (ls : List (List UInt8)) (turn i : Nat) : List UInt8 := ls.getD ((i + turn) % ls.length) []
def tL (ls : List (List UInt8)) (turn : Nat) (b : List UInt8) (k : Nat) : List UInt8 := (List.range k).flatMap fun i => padL b (turned ls turn i)
theorem sL_succ {ls : List (List UInt8)} {k : Nat} (h : k < ls.length) : sL ls (k + 1) = sL ls k ++ nl ls[k] := by
  unfold sL
  rw [List.take_succ_eq_append_getElem h, List.flatMap_append]
  simp
theorem tL_succ (ls : List (List UInt8)) (turn : Nat) (b : List UInt8) (k : Nat) : tL ls turn b (k + 1) = tL ls turn b k ++ padL b (turned ls turn k) := by
  simp [tL, List.range_succ]

theorem split_nl : ∀ xs : List (List UInt8), (∀ x ∈ xs, (10 : UInt8) ∉ x) → splitL 10 (xs.flatMap nl) = xs ++ [[]]
  | [], _ => rfl
  | x :: xs, h => by
    have e : (x :: xs).flatMap nl = x ++ 10 :: xs.flatMap nl := by simp [nl]
    rw [e, splitL_cut 10 x _ (h x (by simp)), split_nl xs fun y hy => h y (List.mem_cons_of_mem _ hy)]
    rfl
def two (b x : List UInt8) : List (List UInt8) := [[35, 32] ++ b, b ++ x ++ b]
theorem pad_two (b x : List UInt8) : padL b x = (two b x).flatMap nl := by simp [padL, two, nl]
theorem flat_two (b : List UInt8) : ∀ xs : List (List UInt8), xs.flatMap (padL b) = (xs.flatMap (two b)).flatMap nl
  | [] => rfl
  | x :: xs => by rw [List.flatMap_cons, List.flatMap_cons, List.flatMap_append, flat_two b xs, pad_two]
theorem words_rem (b : List UInt8) (hb : ∀ x ∈ b, x = 32) : wordsL ([35, 32] ++ b) = [[35]] := by
  rw [words_pad' b _ hb]; rfl
theorem words_mid (b x : List UInt8) (hb : ∀ y ∈ b, y = 32) : wordsL (b ++ x ++ b) = wordsL x := by
  rw [words_pad' b _ hb, words_pad b _ hb]
theorem kind_rem : kind [[35]] = some none := rfl
theorem sets_two (b : List UInt8) (hb : ∀ y ∈ b, y = 32) : ∀ xs : List (List UInt8), setsOf ((xs.flatMap (two b) ++ [[]]).map wordsL) = setsOf ((xs ++ [[]]).map wordsL) ∧ goodW ((xs.flatMap (two b) ++ [[]]).map wordsL) = goodW ((xs ++ [[]]).map wordsL)
  | [] => ⟨rfl, rfl⟩
  | x :: xs => by
    obtain ⟨h1, h2⟩ := sets_two b hb xs
    have e : ((x :: xs).flatMap (two b) ++ [[]]).map wordsL = [[35]] :: wordsL x :: (xs.flatMap (two b) ++ [[]]).map wordsL := by
      rw [List.flatMap_cons]
      show wordsL ([35, 32] ++ b) :: wordsL (b ++ x ++ b) :: _ = _
      rw [words_rem b hb, words_mid b x hb]
      rfl
    have e2 : ((x :: xs) ++ [[]]).map wordsL = wordsL x :: (xs ++ [[]]).map wordsL := rfl
    rw [e, e2]
    constructor
    · rw [setsOf_cons, kind_rem, setsOf_cons, setsOf_cons, h1]; rfl
    · simp only [goodW, List.all_cons] at h2 ⊢
      rw [h2, kind_rem]; rfl
theorem turn_perm (ls : List (List UInt8)) (turn : Nat) : ((List.range ls.length).map (turned ls turn)).Perm ls := by
  by_cases h0 : ls.length = 0
  · have : ls = [] := List.eq_nil_of_length_eq_zero h0
    subst this; exact List.Perm.refl _
  have hk := Nat.mod_lt turn (Nat.pos_of_ne_zero h0)
  have e : (List.range ls.length).map (turned ls turn) = ls.drop (turn % ls.length) ++ ls.take (turn % ls.length) := by
    refine List.ext_getElem (by simp; omega) fun i h1 h2 => ?_
    have hi : i < ls.length := by simpa using h1
    simp only [List.getElem_map, List.getElem_range, turned]
    have hm : (i + turn) % ls.length = (i + turn % ls.length) % ls.length := by rw [Nat.add_mod, Nat.mod_eq_of_lt hi]
    rw [hm]
    generalize turn % ls.length = k at hk h2 ⊢
    by_cases hc : i + k < ls.length
    · rw [Nat.mod_eq_of_lt hc, List.getElem_append_left (by simp; omega), List.getElem_drop]
      rw [List.getD_eq_getElem?_getD, List.getElem?_eq_getElem hc]
      simp [Nat.add_comm]
    · have hm2 : (i + k) % ls.length = i + k - ls.length := by
        rw [Nat.mod_eq_sub_mod (by omega), Nat.mod_eq_of_lt (by omega)]
      rw [hm2, List.getElem_append_right (by simp; omega), List.getElem_take]
      rw [List.getD_eq_getElem?_getD, List.getElem?_eq_getElem (by omega)]
      simp only [List.length_drop, Option.getD_some]
      congr 1
      omega
  rw [e]
  exact List.perm_append_comm.trans (by rw [List.take_append_drop])
theorem turn_len (ls : List (List UInt8)) (turn : Nat) (b : List UInt8) : (sL ls ls.length).length ≤ (tL ls turn b ls.length).length := by
  have hp := turn_perm ls turn
  have et : tL ls turn b ls.length = ((List.range ls.length).map (turned ls turn)).flatMap (padL b) := by
    rw [List.flatMap_map]; rfl
  have es : sL ls ls.length = ls.flatMap nl := by simp [sL]
  generalize (List.range ls.length).map (turned ls turn) = xs at hp et
  have h1 : (xs.flatMap nl).length = (ls.flatMap nl).length := (hp.flatMap_right nl).length_eq
  have h2 : ∀ ys : List (List UInt8), (ys.flatMap nl).length ≤ (ys.flatMap (padL b)).length := by
    intro ys
    induction ys with
    | nil => simp
    | cons y ys ih =>
      have : (nl y).length ≤ (padL b y).length := by simp [nl, padL]; omega
      simp only [List.flatMap_cons, List.length_append]
      omega
  have := h2 xs
  rw [et, es]; omega
theorem lines_law (ls : List (List UInt8)) (turn : Nat) (b : List UInt8) (hb : ∀ y ∈ b, y = 32) (h10 : ∀ x ∈ ls, (10 : UInt8) ∉ x) (ht : (tL ls turn b ls.length).length ≤ 512) :
    ((readS (sL ls ls.length)).2.1 ≠ 0 → (readS (tL ls turn b ls.length)).2.1 ≠ 0) ∧ ((readS (sL ls ls.length)).2.1 = 0 → (readS (tL ls turn b ls.length)).2.1 = 0 ∧ (readS (tL ls turn b ls.length)).1 = (readS (sL ls ls.length)).1) := by
  have hp := turn_perm ls turn
  have et : tL ls turn b ls.length = (((List.range ls.length).map (turned ls turn)).flatMap (two b)).flatMap nl := by
    rw [← flat_two, List.flatMap_map]; rfl
  have es : sL ls ls.length = ls.flatMap nl := by simp [sL]
  have hb10 : (10 : UInt8) ∉ b := fun hm => by have := hb 10 hm; simp at this
  generalize (List.range ls.length).map (turned ls turn) = xs at hp et
  have hx10 : ∀ x ∈ xs, (10 : UInt8) ∉ x := fun x hx => h10 x (hp.mem_iff.1 hx)
  have s1 : splitL 10 (sL ls ls.length) = ls ++ [[]] := by rw [es, split_nl ls h10]
  have s2 : splitL 10 (tL ls turn b ls.length) = xs.flatMap (two b) ++ [[]] := by
    rw [et, split_nl]
    intro y hy
    obtain ⟨x, hx, hy⟩ := List.mem_flatMap.1 hy
    simp only [two, List.mem_cons, List.mem_nil_iff, or_false] at hy
    rcases hy with rfl | rfl
    · intro hm
      rcases List.mem_append.1 hm with hm | hm
      · simp at hm
      · exact hb10 hm
    · intro hm
      rcases List.mem_append.1 hm with hm | hm
      · rcases List.mem_append.1 hm with hm | hm
        · exact hb10 hm
        · exact hx10 x hx hm
      · exact hb10 hm
  obtain ⟨t1, t2⟩ := sets_two b hb xs
  have hlen := turn_len ls turn b
  refine read_same (by omega) (by omega) ?_ ?_
  · rw [s1, s2, t2]
    rw [Bool.eq_iff_iff]
    simp only [goodW, List.all_eq_true, List.mem_map, List.mem_append]
    constructor
    · rintro h w ⟨a, ha, rfl⟩; exact h _ ⟨a, ha.imp hp.mem_iff.2 id, rfl⟩
    · rintro h w ⟨a, ha, rfl⟩; exact h _ ⟨a, ha.imp hp.mem_iff.1 id, rfl⟩
  · rw [s1, s2, t1]
    exact List.Perm.filterMap _ ((hp.append_right _).map _)
end Go.Proofs.YtmmmepmjmofbjaaDoor
