/- Plain: the order of lines, blanks around words, and lines that say nothing, play no part in what is read. No Go in sight. -/
import Derived.Test.YtmmmepmjmofbjaaDoorInf
import Derived.Test.YtmmmepmjmofbjaaDoorConfS
import Derived.Test.YtmmmepmjmofbjaaDoorPlainR
set_option linter.unusedVariables false
namespace Go.Proofs.YtmmmepmjmofbjaaDoor
open Go Go.RowKit

/-! ### what a line is, whatever was read ahead of it -/
abbrev Ws := List (List UInt8)
/-- none: it is wrong by itself; some none: it says nothing; else the setting and its words -/
def kind : Ws → Option (Option (Int × Ws))
  | [] => some none
  | x :: r => if x.head? = some 35 then some none else if placeI x = 0 then none else if lineE (placeI x) r = 0 then some (some (placeI x, r)) else none
def put1 (st : Rs) (p : Int × Ws) : Rs := ⟨lineD st.c p.1 p.2, p.1 :: st.seen⟩
def runW : List Ws → Rs → Option Rs
  | [], st => some st
  | w :: r, st => if (oneLine st w).1 = 0 then runW r (oneLine st w).2 else none
theorem one_kind (st : Rs) (w : Ws) : (kind w = none → (oneLine st w).1 ≠ 0) ∧ (kind w = some none → oneLine st w = (0, st)) ∧
    (∀ p, kind w = some (some p) → (st.seen.contains p.1 = true → (oneLine st w).1 ≠ 0) ∧ (st.seen.contains p.1 = false → oneLine st w = (0, put1 st p))) := by
  cases w with
  | nil => exact ⟨(fun h => by cases h), fun _ => rfl, fun p h => by simp [kind] at h⟩
  | cons x r =>
    simp only [kind, oneLine]
    by_cases h1 : x.head? = some 35
    · simp only [if_pos h1]; exact ⟨(fun h => by cases h), fun _ => trivial, fun p h => by simp at h⟩
    simp only [if_neg h1]
    by_cases h2 : placeI x = 0
    · simp only [if_pos h2]; exact ⟨(fun _ => by simp), (fun h => by cases h), fun p h => by cases h⟩
    simp only [if_neg h2]
    by_cases h3 : lineE (placeI x) r = 0
    · simp only [if_pos h3]
      refine ⟨fun h => (by cases h), fun h => (by simp at h), fun p h => ?_⟩
      simp only [Option.some.injEq] at h
      subst h
      exact ⟨(fun hs => by rw [if_pos hs]; simp), fun hs => by rw [if_neg (by simpa using hs)]; rfl⟩
    · simp only [if_neg h3]
      refine ⟨fun _ => ?_, fun h => (by cases h), fun p h => (by cases h)⟩
      split
      · simp
      · exact h3
theorem kind_key {w : Ws} {p : Int × Ws} (h : kind w = some (some p)) : 1 ≤ p.1 ∧ p.1 ≤ 7 := by
  cases w with
  | nil => simp [kind] at h
  | cons x r =>
    simp only [kind] at h
    have := place_bd x
    split at h
    · simp at h
    split at h
    · cases h
    split at h
    · simp only [Option.some.injEq] at h; subst h; simp only; omega
    · cases h
/-- the settings of lines -/
def setsOf (ws : List Ws) : List (Int × Ws) := ws.filterMap fun w => (kind w).getD none
def goodW (ws : List Ws) : Bool := ws.all fun w => (kind w).isSome
theorem setsOf_cons (w : Ws) (r : List Ws) : setsOf (w :: r) = (match (kind w).getD none with | none => setsOf r | some p => p :: setsOf r) := by
  simp only [setsOf, List.filterMap_cons]
  cases (kind w).getD none <;> rfl
theorem runW_some : ∀ (ws : List Ws) (st : Rs), goodW ws = true → ((setsOf ws).map (·.1)).Nodup → (∀ p ∈ setsOf ws, st.seen.contains p.1 = false) → runW ws st = some ((setsOf ws).foldl put1 st)
  | [], st, _, _, _ => rfl
  | w :: r, st, hg, hn, hs => by
    simp only [goodW, List.all_cons, Bool.and_eq_true] at hg
    obtain ⟨h1, h2, h3⟩ := one_kind st w
    rw [setsOf_cons] at hn hs ⊢
    cases hk : kind w with
    | none => rw [hk] at hg; simp at hg
    | some o =>
      rw [hk] at hn hs
      cases o with
      | none =>
        simp only [runW]
        rw [h2 hk, if_pos rfl]
        exact runW_some r st hg.2 hn hs
      | some p =>
        simp only [Option.getD_some] at hn hs ⊢
        have hp := hs p (by simp)
        simp only [runW]
        rw [(h3 p hk).2 hp, if_pos rfl]
        simp only [List.map_cons, List.nodup_cons] at hn
        refine runW_some r (put1 st p) hg.2 hn.2 fun q hq => ?_
        have := hs q (List.mem_cons_of_mem _ hq)
        simp only [put1, List.contains_cons, Bool.or_eq_false_iff, beq_eq_false_iff_ne]
        refine ⟨fun e => hn.1 ?_, this⟩
        rw [← e]; exact List.mem_map.2 ⟨q, hq, rfl⟩
theorem runW_inv : ∀ (ws : List Ws) (st st' : Rs), runW ws st = some st' → goodW ws = true ∧ ((setsOf ws).map (·.1)).Nodup ∧ (∀ p ∈ setsOf ws, st.seen.contains p.1 = false)
  | [], st, st', _ => ⟨rfl, List.nodup_nil, fun p hp => by cases hp⟩
  | w :: r, st, st', h => by
    obtain ⟨h1, h2, h3⟩ := one_kind st w
    simp only [runW] at h
    have h0 : (oneLine st w).1 = 0 := by
      by_cases h0 : (oneLine st w).1 = 0
      · exact h0
      · rw [if_neg h0] at h; cases h
    rw [if_pos h0] at h
    rw [setsOf_cons]
    cases hk : kind w with
    | none => exact absurd h0 (h1 hk)
    | some o =>
      cases o with
      | none =>
        rw [h2 hk] at h
        obtain ⟨a, b, c⟩ := runW_inv r st st' h
        exact ⟨by simp only [goodW, List.all_cons, hk, Option.isSome_some, Bool.true_and]; exact a, b, c⟩
      | some p =>
        have hp : st.seen.contains p.1 = false := by
          cases hb : st.seen.contains p.1 with
          | false => rfl
          | true => exact absurd h0 ((h3 p hk).1 hb)
        rw [(h3 p hk).2 hp] at h
        obtain ⟨a, b, c⟩ := runW_inv r (put1 st p) st' h
        have c' : ∀ q ∈ setsOf r, ¬ q.1 = p.1 ∧ st.seen.contains q.1 = false := fun q hq => by
          have := c q hq
          simp only [put1, List.contains_cons, Bool.or_eq_false_iff, beq_eq_false_iff_ne] at this
          exact this
        refine ⟨by simp only [goodW, List.all_cons, hk, Option.isSome_some, Bool.true_and]; exact a, ?_, ?_⟩
        · simp only [Option.getD_some, List.map_cons, List.nodup_cons]
          refine ⟨fun hm => ?_, b⟩
          obtain ⟨q, hq, e⟩ := List.mem_map.1 hm
          exact (c' q hq).1 e
        · intro q hq
          simp only [Option.getD_some] at hq
          rcases List.mem_cons.1 hq with rfl | hq
          · exact hp
          · exact (c' q hq).2

/-! ### settings in another order -/
theorem lineD_comm (c : Cf) {k k' : Int} (r r' : Ws) (h : 1 ≤ k ∧ k ≤ 7) (h' : 1 ≤ k' ∧ k' ≤ 7) (hne : k ≠ k') : lineD (lineD c k r) k' r' = lineD (lineD c k' r') k r := by
  have a : k = 1 ∨ k = 2 ∨ k = 3 ∨ k = 4 ∨ k = 5 ∨ k = 6 ∨ k = 7 := by omega
  have b : k' = 1 ∨ k' = 2 ∨ k' = 3 ∨ k' = 4 ∨ k' = 5 ∨ k' = 6 ∨ k' = 7 := by omega
  rcases a with rfl | rfl | rfl | rfl | rfl | rfl | rfl <;> rcases b with rfl | rfl | rfl | rfl | rfl | rfl | rfl <;> first | rfl | exact absurd rfl hne
theorem fold_c : ∀ (l : List (Int × Ws)) (st : Rs), (l.foldl put1 st).c = l.foldl (fun c p => lineD c p.1 p.2) st.c
  | [], _ => rfl
  | p :: l, st => fold_c l (put1 st p)
theorem fold_seen : ∀ (l : List (Int × Ws)) (st : Rs) (k : Int), (l.foldl put1 st).seen.contains k = ((l.map (·.1)).contains k || st.seen.contains k)
  | [], _, _ => by simp
  | p :: l, st, k => by
    rw [List.foldl_cons, fold_seen l (put1 st p) k]
    simp only [put1, List.map_cons, List.contains_cons]
    cases (k == p.1) <;> simp
theorem fold_perm {l l' : List (Int × Ws)} (h : l.Perm l') : (l.map (·.1)).Nodup → (∀ p ∈ l, 1 ≤ p.1 ∧ p.1 ≤ 7) → ∀ c : Cf, l.foldl (fun c p => lineD c p.1 p.2) c = l'.foldl (fun c p => lineD c p.1 p.2) c := by
  induction h with
  | nil => intro _ _ _; rfl
  | cons x _ ih =>
    intro hn hb c
    simp only [List.map_cons, List.nodup_cons] at hn
    exact ih hn.2 (fun p hp => hb p (List.mem_cons_of_mem _ hp)) _
  | swap x y l =>
    intro hn hb c
    simp only [List.map_cons, List.nodup_cons, List.mem_cons, not_or] at hn
    simp only [List.foldl_cons]
    rw [lineD_comm c y.2 x.2 (hb y (by simp)) (hb x (by simp)) hn.1.1]
  | trans p1 p2 i1 i2 =>
    intro hn hb c
    rw [i1 hn hb c]
    exact i2 ((p1.map _).nodup_iff.1 hn) (fun p hp => hb p (p1.mem_iff.2 hp)) c
theorem sets_key {ws : List Ws} {p : Int × Ws} (h : p ∈ setsOf ws) : 1 ≤ p.1 ∧ p.1 ≤ 7 := by
  obtain ⟨w, _, hk⟩ := List.mem_filterMap.1 h
  cases hw : kind w with
  | none => rw [hw] at hk; simp at hk
  | some o => rw [hw] at hk; simp only [Option.getD_some] at hk; subst hk; exact kind_key hw
/-- two runs over the same settings, in whatever order, and lines that say nothing between -/
theorem run_same {ws ws' : List Ws} (hg : goodW ws' = goodW ws) (hp : (setsOf ws').Perm (setsOf ws)) (st : Rs) :
    (runW ws st = none ∧ runW ws' st = none) ∨ ∃ a b, runW ws st = some a ∧ runW ws' st = some b ∧ finish a = finish b := by
  by_cases hc : goodW ws = true ∧ ((setsOf ws).map (·.1)).Nodup ∧ (∀ p ∈ setsOf ws, st.seen.contains p.1 = false)
  · right
    obtain ⟨h1, h2, h3⟩ := hc
    have r1 := runW_some ws st h1 h2 h3
    have r2 := runW_some ws' st (by rw [hg]; exact h1) ((hp.map _).nodup_iff.2 h2) fun p hp' => h3 p (hp.mem_iff.1 hp')
    refine ⟨_, _, r1, r2, ?_⟩
    have e1 : ((setsOf ws').foldl put1 st).c = ((setsOf ws).foldl put1 st).c := by
      rw [fold_c, fold_c, fold_perm hp ((hp.map _).nodup_iff.2 h2) (fun p hp' => sets_key hp')]
    have e2 : ∀ k, ((setsOf ws').foldl put1 st).seen.contains k = ((setsOf ws).foldl put1 st).seen.contains k := fun k => by
      rw [fold_seen, fold_seen]
      have : ((setsOf ws').map (·.1)).contains k = ((setsOf ws).map (·.1)).contains k := by
        rw [Bool.eq_iff_iff, List.contains_iff_mem, List.contains_iff_mem]; exact (hp.map _).mem_iff
      rw [this]
    unfold finish
    rw [e1, e2, e2, e2]
  · left
    constructor
    · cases hr : runW ws st with
      | none => rfl
      | some a => exact absurd (runW_inv ws st a hr) hc
    · cases hr : runW ws' st with
      | none => rfl
      | some a =>
        obtain ⟨a1, a2, a3⟩ := runW_inv ws' st a hr
        exact absurd ⟨by rw [← hg]; exact a1, (hp.map _).nodup_iff.1 a2, fun p hp' => a3 p (hp.mem_iff.2 hp')⟩ hc

/-! ### a text's lines -/
theorem go_run : ∀ (ls : List (List UInt8)) (i : Nat) (st : Rs), (∀ a, runW (ls.map wordsL) st = some a → (linesGo ls i st).1 = 0 ∧ (linesGo ls i st).2.2 = a) ∧ (runW (ls.map wordsL) st = none → (linesGo ls i st).1 ≠ 0)
  | [], i, st => ⟨fun a h => by simp only [List.map_nil, runW, Option.some.injEq] at h; exact ⟨rfl, h⟩, fun h => by simp [runW] at h⟩
  | l :: ls, i, st => by
    simp only [List.map_cons, runW, linesGo]
    by_cases h0 : (oneLine st (wordsL l)).1 = 0
    · simp only [if_pos h0]; exact go_run ls (i + 1) _
    · simp only [if_neg h0]; exact ⟨fun a h => (by cases h), fun _ => h0⟩
/-- what is read of two texts with the same settings -/
theorem read_same {s t : List UInt8} (hs : ¬ 512 < s.length) (ht : ¬ 512 < t.length) (hg : goodW ((splitL 10 t).map wordsL) = goodW ((splitL 10 s).map wordsL)) (hp : (setsOf ((splitL 10 t).map wordsL)).Perm (setsOf ((splitL 10 s).map wordsL))) :
    ((readS s).2.1 ≠ 0 → (readS t).2.1 ≠ 0) ∧ ((readS s).2.1 = 0 → (readS t).2.1 = 0 ∧ (readS t).1 = (readS s).1) := by
  obtain ⟨a1, a2⟩ := go_run (splitL 10 s) 0 st0
  obtain ⟨b1, b2⟩ := go_run (splitL 10 t) 0 st0
  rcases run_same hg hp st0 with ⟨h1, h2⟩ | ⟨a, b, h1, h2, hf⟩
  · have e1 := a2 h1
    have e2 := b2 h2
    unfold readS
    rw [if_neg hs, if_neg ht, if_neg e1, if_neg e2]
    exact ⟨fun _ => e2, fun h => absurd h e1⟩
  · obtain ⟨e1, f1⟩ := a1 a h1
    obtain ⟨e2, f2⟩ := b1 b h2
    unfold readS
    rw [if_neg hs, if_neg ht, if_pos e1, if_pos e2, f1, f2, ← hf]
    exact ⟨fun h => h, fun h => ⟨h, rfl⟩⟩

/-! ### blanks -/
theorem splitL_end (b : UInt8) : ∀ l : List UInt8, splitL b (l ++ [b]) = splitL b l ++ [[]]
  | [] => by simp [splitL]
  | c :: r => by
    have ih := splitL_end b r
    simp only [List.cons_append, splitL]
    by_cases h : c = b
    · rw [if_pos h, if_pos h, ih]; rfl
    · rw [if_neg h, if_neg h, ih]
      cases hs : splitL b r with
      | nil => exact absurd hs (splitL_ne b r)
      | cons p ps => rfl
theorem words_pre (l : List UInt8) : wordsL (32 :: l) = wordsL l := by
  unfold wordsL
  rw [splitL, if_pos rfl]
  simp
theorem words_post (l : List UInt8) : wordsL (l ++ [32]) = wordsL l := by
  unfold wordsL
  rw [splitL_end, List.filter_append]
  simp
theorem words_pad (b l : List UInt8) (hb : ∀ x ∈ b, x = 32) : wordsL (b ++ l) = wordsL l := by
  induction b with
  | nil => rfl
  | cons c b ih =>
    have : c = 32 := hb c (by simp)
    subst this
    rw [List.cons_append, words_pre, ih fun x hx => hb x (List.mem_cons_of_mem _ hx)]
theorem words_pad' (b l : List UInt8) (hb : ∀ x ∈ b, x = 32) : wordsL (l ++ b) = wordsL l := by
  induction b generalizing l with
  | nil => simp
  | cons c b ih =>
    have : c = 32 := hb c (by simp)
    subst this
    have e : l ++ 32 :: b = (l ++ [32]) ++ b := by simp
    rw [e, ih _ fun x hx => hb x (List.mem_cons_of_mem _ hx), words_post]
end Go.Proofs.YtmmmepmjmofbjaaDoor
