/- Plain laws: strings.FieldsFunc at blanks is wordsL. -/
import Derived.Test.YtmmmepmjmofbjaaDoorPlainB
set_option linter.unusedVariables false
namespace Go.Proofs.YtmmmepmjmofbjaaDoor
open Go Go.RowKit

/-- the spans of words, byte by byte -/
def spB : List UInt8 → Nat → Option Nat → List (Nat × Nat) → List (Nat × Nat) × Option Nat
  | [], _, st, acc => (acc, st)
  | c :: r, pos, none, acc => if c = 32 then spB r (pos + 1) none acc else spB r (pos + 1) (some pos) acc
  | c :: r, pos, some a, acc => if c = 32 then spB r (pos + 1) none (acc ++ [(a, pos)]) else spB r (pos + 1) (some a) acc
theorem spB_skip {l : List UInt8} {q a : Nat} {acc : List (Nat × Nat)} (hq : q < l.length) (h : ¬ l[q] = 32) : spB (l.drop q) q (some a) acc = spB (l.drop (q + 1)) (q + 1) (some a) acc := by
  rw [List.drop_eq_getElem_cons hq]; simp only [spB, if_neg h]
theorem spB_skips {l : List UInt8} {a : Nat} {acc : List (Nat × Nat)} : ∀ (n q : Nat), q + n ≤ l.length → (∀ i, i < n → ∀ h : q + i < l.length, ¬ l[q + i] = 32) → spB (l.drop q) q (some a) acc = spB (l.drop (q + n)) (q + n) (some a) acc
  | 0, q, _, _ => rfl
  | n + 1, q, hn, h => by
    rw [spB_skip (q := q) (by omega) (h 0 (by omega) (by omega)), spB_skips n (q + 1) (by omega) (fun i hi h2 => by
      have := h (i + 1) (by omega) (by omega)
      have e : q + 1 + i = q + (i + 1) := by omega
      simp only [e]; exact this)]
    have e : q + 1 + n = q + (n + 1) := by omega
    rw [e]
theorem get_bang (l : List UInt8) (k : Nat) (h : k < l.length) : (bs l).get! k = l[k] := by
  show (bs l).data[k]! = _
  simp [bs, h]
theorem ne32_of {x : UInt8} (h : x.toNat / 64 = 2) : ¬ x = 32 := by rintro rfl; revert h; decide
/-- the bytes behind a rune's first are no blanks -/
theorem rune_bytes (l : List UInt8) (pos : Nat) (hp : pos < l.length) : pos + (Utf8.decode (bs l) pos).2 ≤ l.length ∧ ∀ i, 1 ≤ i → i < (Utf8.decode (bs l) pos).2 → ∀ h : pos + i < l.length, ¬ l[pos + i] = 32 := by
  rw [Lib.decode_at, bs_size]
  rcases decodeN_w (l.length - pos) ((bs l).get! pos).toNat ((bs l).get! (pos + 1)).toNat ((bs l).get! (pos + 2)).toNat ((bs l).get! (pos + 3)).toNat with h | ⟨h, h1, h2⟩ | ⟨h, h1, h2, h3⟩ | ⟨h, h1, h2, h3, h4⟩
  · rw [h]; exact ⟨by omega, fun i hi hi2 => by omega⟩
  · rw [h]
    rw [get_bang _ _ (by omega)] at h2
    refine ⟨by omega, fun i hi hi2 hb => ?_⟩
    obtain rfl : i = 1 := by omega
    exact ne32_of h2
  · rw [h]
    rw [get_bang _ _ (by omega)] at h2 h3
    refine ⟨by omega, fun i hi hi2 hb => ?_⟩
    have : i = 1 ∨ i = 2 := by omega
    rcases this with rfl | rfl
    · exact ne32_of h2
    · exact ne32_of h3
  · rw [h]
    rw [get_bang _ _ (by omega)] at h2 h3 h4
    refine ⟨by omega, fun i hi hi2 hb => ?_⟩
    have : i = 1 ∨ i = 2 ∨ i = 3 := by omega
    rcases this with rfl | rfl | rfl
    · exact ne32_of h2
    · exact ne32_of h3
    · exact ne32_of h4
def blankP (r : Nat) : Bool := r == 32
theorem spans_eq (l : List UInt8) : ∀ (f pos : Nat) (st : Option Nat) (acc : List (Nat × Nat)), l.length ≤ pos + f → Lib.spansFromP blankP (bs l) f pos st acc = spB (l.drop pos) pos st acc
  | 0, pos, st, acc, h => by
    rw [List.drop_eq_nil_of_le (by omega)]; rfl
  | f + 1, pos, st, acc, h => by
    by_cases hp : pos < l.length
    · have hp' : pos < (bs l).size := by rw [bs_size]; exact hp
      have hget : (bs l)[pos]'hp' = l[pos] := by rfl
      unfold Lib.spansFromP
      rw [if_pos hp']
      by_cases ha : l[pos].toNat < 128
      · have hd := decode_ascii (bs l) pos hp' (by rw [hget]; exact ha)
        rw [hget] at hd
        rw [hd, List.drop_eq_getElem_cons hp]
        have hb : blankP l[pos].toNat = true ↔ l[pos] = 32 := by
          simp only [blankP, beq_iff_eq]
          exact ⟨fun e => UInt8.toNat.inj e, fun e => by rw [e]; rfl⟩
        by_cases hc : l[pos] = 32
        · simp only [hb.2 hc, if_true]
          cases st <;> simp only [spB, if_pos hc] <;> exact spans_eq l f _ _ _ (by omega)
        · have : blankP l[pos].toNat = false := by cases h2 : blankP l[pos].toNat with
            | false => rfl
            | true => exact absurd (hb.1 h2) hc
          simp only [this, Bool.false_eq_true, if_false]
          cases st <;> simp only [spB, if_neg hc] <;> exact spans_eq l f _ _ _ (by omega)
      · have hd := decode_high (bs l) pos hp' (by rw [hget]; omega)
        have hw := rune_bytes l pos hp
        have hn : blankP (Utf8.decode (bs l) pos).1 = false := by
          have := hd.1
          simp only [blankP, beq_eq_false_iff_ne]; omega
        have hc : ¬ l[pos] = 32 := by intro e; rw [e] at ha; exact ha (by decide)
        rw [hn]
        obtain ⟨n, hwn⟩ : ∃ n, (Utf8.decode (bs l) pos).2 = n + 1 := ⟨(Utf8.decode (bs l) pos).2 - 1, by have := hd.2; omega⟩
        rw [hwn] at hw ⊢
        have hskip : ∀ a, spB (l.drop (pos + 1)) (pos + 1) (some a) acc = spB (l.drop (pos + (n + 1))) (pos + (n + 1)) (some a) acc := by
          intro a
          have := spB_skips (l := l) (a := a) (acc := acc) n (pos + 1) (by omega) (fun i hi hb => by
            have := hw.2 (i + 1) (by omega) (by omega) (by omega)
            have e : pos + 1 + i = pos + (i + 1) := by omega
            simp only [e]; exact this)
          rw [this]
          have e : pos + 1 + n = pos + (n + 1) := by omega
          rw [e]
        rw [List.drop_eq_getElem_cons hp]
        cases st with
        | none =>
          simp only [spB, if_neg hc, Bool.false_eq_true, if_false]
          rw [hskip]; exact spans_eq l f _ _ _ (by omega)
        | some a =>
          simp only [spB, if_neg hc, Bool.false_eq_true, if_false]
          rw [hskip]; exact spans_eq l f _ _ _ (by omega)
    · rw [List.drop_eq_nil_of_le (by omega), Lib.spansFromP_end _ _ _ _ _ _ (by rw [bs_size]; exact hp)]
      rfl
/-- the words, byte by byte -/
def wdB : List UInt8 → Option (List UInt8) → List (List UInt8)
  | [], none => []
  | [], some w => [w]
  | c :: r, none => if c = 32 then wdB r none else wdB r (some [c])
  | c :: r, some w => if c = 32 then w :: wdB r none else wdB r (some (w ++ [c]))
theorem ext_mid (l : List UInt8) (a b : Nat) : (bs l).extract a b = bs ((l.drop a).take (b - a)) := by
  apply ByteArray.ext
  apply Array.ext'
  simp [ByteArray.data_extract, Array.toList_extract, List.extract_eq_take_drop]
theorem spB_wdB (l : List UInt8) : ∀ (n pos : Nat) (st : Option Nat) (acc : List (Nat × Nat)), l.length = pos + n → (∀ a, st = some a → a < pos) →
    (Lib.closeSpans (bs l) (spB (l.drop pos) pos st acc)).map (fun x => (bs l).extract x.1 x.2) = acc.map (fun x => (bs l).extract x.1 x.2) ++ (wdB (l.drop pos) (st.map fun a => (l.drop a).take (pos - a))).map bs
  | 0, pos, st, acc, h, hst => by
    rw [List.drop_eq_nil_of_le (by omega)]
    cases st with
    | none => simp [spB, wdB, Lib.closeSpans]
    | some a =>
      simp only [spB, wdB, Lib.closeSpans, Option.map_some, List.map_append, List.map_cons, List.map_nil, ext_mid, bs_size]
      have e : l.length = pos := by omega
      rw [e]
  | n + 1, pos, st, acc, h, hst => by
    have hp : pos < l.length := by omega
    rw [List.drop_eq_getElem_cons hp]
    cases st with
    | none =>
      by_cases hc : l[pos] = 32
      · simp only [spB, if_pos hc, wdB, Option.map_none]
        exact spB_wdB l n (pos + 1) none acc (by omega) (by simp)
      · simp only [spB, if_neg hc, wdB, Option.map_none]
        rw [spB_wdB l n (pos + 1) (some pos) acc (by omega) (by simp)]
        have e : (l.drop pos).take (pos + 1 - pos) = [l[pos]] := by
          rw [List.drop_eq_getElem_cons hp, show pos + 1 - pos = 1 by omega]; rfl
        simp only [Option.map_some, e]
    | some a =>
      have ha := hst a rfl
      by_cases hc : l[pos] = 32
      · simp only [spB, if_pos hc, wdB, Option.map_some]
        rw [spB_wdB l n (pos + 1) none _ (by omega) (by simp)]
        simp [ext_mid]
      · simp only [spB, if_neg hc, wdB, Option.map_some]
        rw [spB_wdB l n (pos + 1) (some a) acc (by omega) (by intro b hb; injection hb with hb; omega)]
        have e : (l.drop a).take (pos + 1 - a) = (l.drop a).take (pos - a) ++ [l[pos]] := by
          have hlt : pos - a < (l.drop a).length := by rw [List.length_drop]; omega
          rw [show pos + 1 - a = (pos - a) + 1 by omega, List.take_succ_eq_append_getElem hlt]
          congr 2
          rw [List.getElem_drop]
          congr 1
          omega
        simp only [Option.map_some, e]
theorem wdB_words : ∀ (l : List UInt8), wdB l none = wordsL l ∧ ∀ w, ¬ w = [] → ∃ p ps, splitL 32 l = p :: ps ∧ wdB l (some w) = (w ++ p) :: ps.filter fun x => !x.isEmpty
  | [] => ⟨rfl, fun w _ => ⟨[], [], rfl, by simp [wdB]⟩⟩
  | c :: r => by
    obtain ⟨h1, h2⟩ := wdB_words r
    by_cases hc : c = 32
    · subst hc
      refine ⟨?_, fun w hw => ⟨[], splitL 32 r, by simp [splitL], ?_⟩⟩
      · simp only [wdB, if_true, h1, wordsL, splitL]; simp
      · simp only [wdB, if_true, h1, wordsL, List.append_nil]
    · obtain ⟨p, ps, hs, _⟩ := h2 [c] (by simp)
      have hsp : splitL 32 (c :: r) = (c :: p) :: ps := by simp only [splitL, if_neg hc, hs]
      refine ⟨?_, fun w hw => ⟨c :: p, ps, hsp, ?_⟩⟩
      · simp only [wdB, if_neg hc, wordsL, hsp]
        obtain ⟨p', ps', hs', h3⟩ := h2 [c] (by simp)
        have e12 := List.cons.inj (hs.symm.trans hs')
        rw [← e12.1, ← e12.2] at h3
        rw [h3]
        try simp
      · obtain ⟨p', ps', hs', h3⟩ := h2 (w ++ [c]) (by simp)
        have e12 := List.cons.inj (hs.symm.trans hs')
        rw [← e12.1, ← e12.2] at h3
        simp only [wdB, if_neg hc]
        rw [h3, List.append_assoc]; rfl
theorem fields_eq (l : List UInt8) : Lib.goFieldsP blankP (bs l) = (wordsL l).map bs := by
  unfold Lib.goFieldsP Lib.spansOfP
  rw [spans_eq l _ 0 none [] (by rw [bs_size]; omega), spB_wdB l l.length 0 none [] (by omega) (by simp)]
  simp [(wdB_words l).1]
end Go.Proofs.YtmmmepmjmofbjaaDoor
