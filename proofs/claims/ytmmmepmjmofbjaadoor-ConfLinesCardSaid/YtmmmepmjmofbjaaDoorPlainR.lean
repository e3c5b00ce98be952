/- Plain: what is shown is read as it was; what is read checks. No Go in sight. -/
import Derived.Test.YtmmmepmjmofbjaaDoorInf
import Derived.Test.YtmmmepmjmofbjaaDoorConfS
import Derived.Test.YtmmmepmjmofbjaaDoorConfD
import Derived.Test.YtmmmepmjmofbjaaDoorConfV
set_option linter.unusedVariables false
namespace Go.Proofs.YtmmmepmjmofbjaaDoor
open Go Go.RowKit

/-! ### numerals -/
theorem dec_ne (n : Nat) : Lib.decDigits n ≠ [] := by
  by_cases h : n < 10
  · rw [dec_small h]; simp
  · rw [dec_big h]; simp
theorem digit_toNat {k : Nat} (h : k < 10) : (UInt8.ofNat (48 + k)).toNat = 48 + k := by
  rw [UInt8.toNat_ofNat']; omega
theorem dec_dig (n : Nat) : digB (Lib.decDigits n) = true := by
  induction n using Nat.strongRecOn with
  | _ n ih =>
    by_cases h : n < 10
    · rw [dec_small h]; simp only [digB, List.all_cons, List.all_nil, digit_toNat h]; simp; omega
    · rw [dec_big h, digB_snoc, ih (n / 10) (by omega), digit_toNat (Nat.mod_lt n (by decide))]
      simp; omega
theorem dec_val (n : Nat) : valN (Lib.decDigits n) = n := by
  induction n using Nat.strongRecOn with
  | _ n ih =>
    by_cases h : n < 10
    · rw [dec_small h]; simp only [valN, List.foldl_cons, List.foldl_nil, digit_toNat h]; omega
    · rw [dec_big h, valN_snoc, ih (n / 10) (by omega), digit_toNat (Nat.mod_lt n (by decide))]
      omega
theorem dec_head (n : Nat) (h1 : 1 ≤ n) : (Lib.decDigits n).head? ≠ some 48 := by
  induction n using Nat.strongRecOn with
  | _ n ih =>
    by_cases h : n < 10
    · rw [dec_small h]
      simp only [List.head?_cons, ne_eq, Option.some.injEq]
      intro e
      have := congrArg UInt8.toNat e
      rw [digit_toNat h] at this
      have h48 : (48 : UInt8).toNat = 48 := rfl
      omega
    · have hi := ih (n / 10) (by omega) (by omega)
      rw [dec_big h]
      cases hd : Lib.decDigits (n / 10) with
      | nil => exact absurd hd (dec_ne _)
      | cons a r => rw [hd] at hi; simpa using hi
theorem dec_isNum (n : Nat) : isNum (Lib.decDigits n) = true := by
  unfold isNum
  rw [dec_dig]
  have h1 : (Lib.decDigits n).isEmpty = false := by
    rw [List.isEmpty_eq_false_iff]; exact dec_ne n
  rw [h1]
  by_cases h : n < 10
  · rw [dec_small h]; simp
  · have := dec_head n (by omega)
    have h2 : ((Lib.decDigits n).head? == some 48) = false := by simpa using this
    rw [h2]; simp
theorem itoa_nat (n : Nat) : Lib.itoa (n : Int) = Lib.decDigits n := by unfold Lib.itoa; rw [if_neg (by omega)]; simp
theorem itoa_isNum {x : Int} (h : 0 ≤ x) : isNum (Lib.itoa x) = true := by
  obtain ⟨n, rfl⟩ := Int.eq_ofNat_of_zero_le h
  rw [itoa_nat]; exact dec_isNum n
theorem itoa_numV {x : Int} (h : 0 ≤ x) (h2 : x ≤ 9223372036854775807) : numV (Lib.itoa x) = x := by
  obtain ⟨n, rfl⟩ := Int.eq_ofNat_of_zero_le h
  rw [itoa_nat]
  unfold numV accN lastM
  rw [if_pos (dec_isNum n), dec_val, if_pos h2]
theorem digB_no {l : List UInt8} (h : digB l = true) {b : UInt8} (hb : b.toNat < 48) : b ∉ l := by
  intro hm
  have := List.all_eq_true.1 h b hm
  simp at this; omega

/-! ### splitting -/
theorem splitL_cut (b : UInt8) (x r : List UInt8) (h : b ∉ x) : splitL b (x ++ b :: r) = x :: splitL b r := by
  induction x with
  | nil => simp [splitL]
  | cons c x ih =>
    simp only [List.mem_cons, not_or] at h
    rw [List.cons_append, splitL, if_neg (fun e => h.1 e.symm), ih h.2]
theorem splitL_no (b : UInt8) (x : List UInt8) (h : b ∉ x) : splitL b x = [x] := by
  induction x with
  | nil => simp [splitL]
  | cons c x ih =>
    simp only [List.mem_cons, not_or] at h
    rw [splitL, if_neg (fun e => h.1 e.symm), ih h.2]
theorem splitL_nums (k : Nat) (x : List UInt8) (l : List Int) (hx : (32 : UInt8) ∉ x) (h : ∀ y ∈ l, (32 : UInt8) ∉ wordOf k y) : splitL 32 (x ++ numsOf k l) = x :: l.map (wordOf k) := by
  induction l generalizing x with
  | nil => simp [numsOf, splitL_no 32 x hx]
  | cons y l ih =>
    have e : numsOf k (y :: l) = 32 :: (wordOf k y ++ numsOf k l) := by simp [numsOf]
    rw [e, splitL_cut 32 x _ hx, ih (wordOf k y) (h y (by simp)) (fun z hz => h z (List.mem_cons_of_mem _ hz))]
    simp
theorem word_no {k : Nat} {x : Int} (h : 0 ≤ x) {b : UInt8} (hb : b.toNat < 48) : b ∉ wordOf k x := by
  unfold wordOf
  split
  · split <;> (intro hm; simp at hm; rcases hm with rfl | rfl | rfl | rfl | rfl | rfl <;> simp at hb)
  · obtain ⟨n, rfl⟩ := Int.eq_ofNat_of_zero_le h
    rw [itoa_nat]; exact digB_no (dec_dig n) hb
theorem word_ne {k : Nat} {x : Int} (h : 0 ≤ x) : wordOf k x ≠ [] := by
  unfold wordOf
  split
  · split <;> simp
  · obtain ⟨n, rfl⟩ := Int.eq_ofNat_of_zero_le h
    rw [itoa_nat]; exact dec_ne n
theorem words7_no {k : Nat} (h : k < 7) {b : UInt8} (hb : b.toNat < 48) : b ∉ words7.getD k [] := by
  have : k = 0 ∨ k = 1 ∨ k = 2 ∨ k = 3 ∨ k = 4 ∨ k = 5 ∨ k = 6 := by omega
  rcases this with rfl | rfl | rfl | rfl | rfl | rfl | rfl <;> (intro hm; simp [words7] at hm; rcases hm with rfl | rfl | rfl | rfl | rfl | rfl | rfl | rfl <;> simp at hb)

/-! ### a line that is shown, read -/
def bodyOf (c : Cf) (k : Nat) : List UInt8 := words7.getD k [] ++ numsOf k (tellL c k)
def argsOf (c : Cf) (k : Nat) : List (List UInt8) := (tellL c k).map (wordOf k)
def stepS (c : Cf) (st : Rs) (k : Nat) : Rs := ⟨lineD st.c ((k : Int) + 1) (argsOf c k), ((k : Int) + 1) :: st.seen⟩
theorem seven {k : Nat} (h : k < 7) : k = 0 ∨ k = 1 ∨ k = 2 ∨ k = 3 ∨ k = 4 ∨ k = 5 ∨ k = 6 := by omega
theorem nums_no {k : Nat} {l : List Int} (h : ∀ y ∈ l, 0 ≤ y) : (10 : UInt8) ∉ numsOf k l := by
  intro hm
  simp only [numsOf, List.mem_flatMap, List.mem_cons] at hm
  obtain ⟨y, hy, hm | hm⟩ := hm
  · simp at hm
  · exact word_no (h y hy) (by decide) hm
theorem words_line {k : Nat} (hk : k < 7) {l : List Int} (h : ∀ y ∈ l, 0 ≤ y) : wordsL (words7.getD k [] ++ numsOf k l) = words7.getD k [] :: l.map (wordOf k) := by
  unfold wordsL
  rw [splitL_nums k _ l (words7_no hk (by decide)) fun y hy => word_no (h y hy) (by decide)]
  rw [List.filter_eq_self]
  intro x hx
  rcases List.mem_cons.1 hx with rfl | hx
  · rcases seven hk with rfl | rfl | rfl | rfl | rfl | rfl | rfl <;> rfl
  · obtain ⟨y, hy, rfl⟩ := List.mem_map.1 hx
    have := word_ne (k := k) (h y hy)
    simpa using this
theorem map_numV {l : List Int} (h : ∀ y ∈ l, 0 ≤ y ∧ y ≤ 9223372036854775807) {k : Nat} (hk : k ≠ 2) : (l.map (wordOf k)).map numV = l := by
  rw [List.map_map]
  refine (List.map_congr_left (g := id) fun y hy => ?_).trans (List.map_id l)
  simp only [Function.comp_apply, wordOf, if_neg hk, id]
  exact itoa_numV (h y hy).1 (h y hy).2
theorem map_isNum {l : List Int} (h : ∀ y ∈ l, 0 ≤ y) {k : Nat} (hk : k ≠ 2) : (l.map (wordOf k)).all isNum = true := by
  rw [List.all_eq_true]
  intro x hx
  obtain ⟨y, hy, rfl⟩ := List.mem_map.1 hx
  simp only [wordOf, if_neg hk]
  exact itoa_isNum (h y hy)
theorem line_ok {c : Cf} (h : checkE c = 0) (ht : c.ti ≤ 9223372036854775807) (hp : c.pa ≤ 9223372036854775807) {k : Nat} (hk : k < 7) : lineE ((k : Int) + 1) (argsOf c k) = 0 := by
  have hr := tell_rng h ht hp k hk
  obtain ⟨h1, h2, h3⟩ := check_zero h
  by_cases hk2 : k = 2
  · subst hk2
    obtain ⟨so, ro, ol, we, qu, ti, pa⟩ := c
    cases ol <;> rfl
  have hnum := map_numV hr hk2
  have his := map_isNum (fun y hy => (hr y hy).1) hk2
  unfold lineE argsOf
  have hl : ¬ (((tellL c k).map (wordOf k)).length = 0 ∨ (1 < ((tellL c k).map (wordOf k)).length ∧ ((k : Int) + 1) ≠ 4)) := by
    rw [List.length_map]
    obtain ⟨so, ro, ol, we, qu, ti, pa⟩ := c
    simp [fieldsOk] at h1
    simp only at h3
    rcases seven hk with rfl | rfl | rfl | rfl | rfl | rfl | rfl <;> simp [tellL]
    intro e; subst e; simp at h3; omega
  rw [if_neg hl, if_neg (by omega), if_pos his, hnum]
  rw [if_pos]
  rw [List.all_eq_true]
  intro x hx
  obtain ⟨so, ro, ol, we, qu, ti, pa⟩ := c
  simp [fieldsOk] at h1
  simp only at h2 h3 ht hp
  rcases seven hk with rfl | rfl | rfl | rfl | rfl | rfl | rfl
  · simp [tellL] at hx; subst hx; simp [rngB, lowI, highI]; omega
  · simp [tellL] at hx; subst hx; simp [rngB, lowI, highI]; omega
  · exact absurd rfl hk2
  · have := List.all_eq_true.1 h2 x hx
    simp [wOk] at this
    simp [rngB, lowI, highI]; omega
  · simp [tellL] at hx; subst hx; simp [rngB, lowI, highI]; omega
  · simp [tellL] at hx; subst hx; simp [rngB, lowI, highI]; omega
  · simp [tellL] at hx; subst hx; simp [rngB, lowI, highI]; omega
theorem one_body {c : Cf} (h : checkE c = 0) (ht : c.ti ≤ 9223372036854775807) (hp : c.pa ≤ 9223372036854775807) {k : Nat} (hk : k < 7) {st : Rs} (hs : st.seen.contains ((k : Int) + 1) = false) :
    oneLine st (wordsL (bodyOf c k)) = (0, stepS c st k) := by
  have hr := tell_rng h ht hp k hk
  have hpl : placeI (words7.getD k []) = (k : Int) + 1 := by
    rcases seven hk with rfl | rfl | rfl | rfl | rfl | rfl | rfl <;> decide
  have hhd : ¬ (words7.getD k []).head? = some 35 := by
    rcases seven hk with rfl | rfl | rfl | rfl | rfl | rfl | rfl <;> decide
  unfold bodyOf
  rw [words_line hk fun y hy => (hr y hy).1]
  have := one_good (st := st) (x := words7.getD k []) (r := (tellL c k).map (wordOf k)) hhd (by rw [hpl]; omega) (by rw [hpl]; exact hs) (by rw [hpl]; exact line_ok h ht hp hk)
  rw [this, hpl]
  rfl
theorem go_body {c : Cf} (h : checkE c = 0) (ht : c.ti ≤ 9223372036854775807) (hp : c.pa ≤ 9223372036854775807) {k : Nat} (hk : k < 7) {st : Rs} (hs : st.seen.contains ((k : Int) + 1) = false) (r : List (List UInt8)) (i : Nat) :
    linesGo (bodyOf c k :: r) i st = linesGo r (i + 1) (stepS c st k) := by
  simp only [linesGo]
  rw [one_body h ht hp hk hs, if_pos rfl]
theorem split_lines {c : Cf} (h : ∀ k, k < 7 → ∀ x ∈ tellL c k, 0 ≤ x) (r : List UInt8) : ∀ ks : List Nat, (∀ k ∈ ks, k < 7) → splitL 10 (ks.flatMap (lineOf c) ++ r) = ks.map (bodyOf c) ++ splitL 10 r
  | [], _ => rfl
  | k :: ks, hk => by
    have e : (k :: ks).flatMap (lineOf c) ++ r = bodyOf c k ++ 10 :: (ks.flatMap (lineOf c) ++ r) := by simp [lineOf, bodyOf]
    rw [e, splitL_cut, split_lines h r ks fun j hj => hk j (List.mem_cons_of_mem _ hj)]
    · rfl
    · intro hm
      rcases List.mem_append.1 hm with hm | hm
      · exact words7_no (hk k (by simp)) (by decide) hm
      · exact nums_no (h k (hk k (by simp))) hm
theorem itoa_short {x : Int} (h : 0 ≤ x) (h2 : x ≤ 9223372036854775807) : (Lib.itoa x).length ≤ 21 := Lib.itoa_length_le x (by omega) h2
theorem show_short {c : Cf} (h : checkE c = 0) (ht : c.ti ≤ 9223372036854775807) (hp : c.pa ≤ 9223372036854775807) : ¬ 512 < (linesTo c 7).length := by
  have hr := tell_rng h ht hp
  obtain ⟨h1, h2, h3⟩ := check_zero h
  have n0 := nums_len (k := 0) (hr 0 (by decide))
  have n1 := nums_len (k := 1) (hr 1 (by decide))
  have n2 := nums_len (k := 2) (hr 2 (by decide))
  have n3 := nums_len (k := 3) (hr 3 (by decide))
  have n4 := nums_len (k := 4) (hr 4 (by decide))
  have n5 := nums_len (k := 5) (hr 5 (by decide))
  have n6 := nums_len (k := 6) (hr 6 (by decide))
  obtain ⟨so, ro, ol, we, qu, ti, pa⟩ := c
  simp [fieldsOk] at h1
  simp only at h3
  have hw : we.length ≤ 8 := by omega
  have e : linesTo ⟨so, ro, ol, we, qu, ti, pa⟩ 7 = lineOf ⟨so, ro, ol, we, qu, ti, pa⟩ 0 ++ (lineOf ⟨so, ro, ol, we, qu, ti, pa⟩ 1 ++ (lineOf ⟨so, ro, ol, we, qu, ti, pa⟩ 2 ++ (lineOf ⟨so, ro, ol, we, qu, ti, pa⟩ 3 ++ (lineOf ⟨so, ro, ol, we, qu, ti, pa⟩ 4 ++ (lineOf ⟨so, ro, ol, we, qu, ti, pa⟩ 5 ++ lineOf ⟨so, ro, ol, we, qu, ti, pa⟩ 6))))) := by simp [linesTo, List.range_succ]
  rw [e]
  simp only [lineOf, List.length_append]
  simp only [tellL, List.length_cons, List.length_nil] at n0 n1 n2 n3 n4 n5 n6 ⊢
  have w0 : (words7.getD 0 []).length = 7 := rfl
  have w1 : (words7.getD 1 []).length = 4 := rfl
  have w2 : (words7.getD 2 []).length = 6 := rfl
  have w3 : (words7.getD 3 []).length = 7 := rfl
  have w4 : (words7.getD 4 []).length = 7 := rfl
  have w5 : (words7.getD 5 []).length = 7 := rfl
  have w6 : (words7.getD 6 []).length = 8 := rfl
  omega
theorem back {c : Cf} (h : checkE c = 0) (ht : c.ti ≤ 9223372036854775807) (hp : c.pa ≤ 9223372036854775807) : readS (showS c) = (c, 0, 0) := by
  have hr := tell_rng h ht hp
  have e1 : splitL 10 (linesTo c 7) = [bodyOf c 0, bodyOf c 1, bodyOf c 2, bodyOf c 3, bodyOf c 4, bodyOf c 5, bodyOf c 6, []] := by
    have := split_lines (fun k hk x hx => (hr k hk x hx).1) [] [0, 1, 2, 3, 4, 5, 6] (by decide)
    rw [List.append_nil] at this
    exact this
  have e2 : linesGo (splitL 10 (linesTo c 7)) 0 st0 = (0, 8, stepS c (stepS c (stepS c (stepS c (stepS c (stepS c (stepS c st0 0) 1) 2) 3) 4) 5) 6) := by
    rw [e1, go_body h ht hp (by decide) (by rfl), go_body h ht hp (by decide) (by rfl), go_body h ht hp (by decide) (by rfl), go_body h ht hp (by decide) (by rfl), go_body h ht hp (by decide) (by rfl), go_body h ht hp (by decide) (by rfl), go_body h ht hp (by decide) (by rfl)]
    rfl
  have e3 : showS c = linesTo c 7 := by unfold showS; rw [if_pos h]
  rw [e3, readS_ok (show_short h ht hp) e2]
  obtain ⟨h1, h2, h3⟩ := check_zero h
  obtain ⟨so, ro, ol, we, qu, ti, pa⟩ := c
  have a0 := map_numV (hr 0 (by decide)) (k := 0) (by decide)
  have a1 := map_numV (hr 1 (by decide)) (k := 1) (by decide)
  have a3 := map_numV (hr 3 (by decide)) (k := 3) (by decide)
  have a4 := map_numV (hr 4 (by decide)) (k := 4) (by decide)
  have a5 := map_numV (hr 5 (by decide)) (k := 5) (by decide)
  have a6 := map_numV (hr 6 (by decide)) (k := 6) (by decide)
  have hc : (stepS ⟨so, ro, ol, we, qu, ti, pa⟩ (stepS ⟨so, ro, ol, we, qu, ti, pa⟩ (stepS ⟨so, ro, ol, we, qu, ti, pa⟩ (stepS ⟨so, ro, ol, we, qu, ti, pa⟩ (stepS ⟨so, ro, ol, we, qu, ti, pa⟩ (stepS ⟨so, ro, ol, we, qu, ti, pa⟩ (stepS ⟨so, ro, ol, we, qu, ti, pa⟩ st0 0) 1) 2) 3) 4) 5) 6).c = ⟨so, ro, ol, we, qu, ti, pa⟩ := by
    simp only [stepS, lineD, argsOf, st0, a0, a1, a3, a4, a5, a6]
    cases ol <;> simp [setC, tellL, wordOf, oldest6]
  unfold finish
  rw [hc]
  have hs : (stepS ⟨so, ro, ol, we, qu, ti, pa⟩ (stepS ⟨so, ro, ol, we, qu, ti, pa⟩ (stepS ⟨so, ro, ol, we, qu, ti, pa⟩ (stepS ⟨so, ro, ol, we, qu, ti, pa⟩ (stepS ⟨so, ro, ol, we, qu, ti, pa⟩ (stepS ⟨so, ro, ol, we, qu, ti, pa⟩ (stepS ⟨so, ro, ol, we, qu, ti, pa⟩ st0 0) 1) 2) 3) 4) 5) 6).seen = [7, 6, 5, 4, 3, 2, 1] := rfl
  rw [hs]
  simp only at h3
  simp [h3]
end Go.Proofs.YtmmmepmjmofbjaaDoor
