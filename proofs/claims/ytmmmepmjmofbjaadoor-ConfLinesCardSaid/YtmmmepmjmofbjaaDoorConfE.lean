/- lookoutref17.Words; conf.number. -/
import Derived.Test.YtmmmepmjmofbjaaDoorProg
import Derived.Test.YtmmmepmjmofbjaaDoorInf
import Derived.Test.YtmmmepmjmofbjaaDoorSplitA
import Derived.Test.YtmmmepmjmofbjaaDoorConfB
set_option linter.unusedVariables false
namespace Go.Proofs.YtmmmepmjmofbjaaDoor
open Go Go.RowKit

def wordsL (l : List UInt8) : List (List UInt8) := (splitL 32 l).filter fun x => !x.isEmpty

theorem splitL_len (b : UInt8) (l : List UInt8) : (splitL b l).length ≤ l.length + 1 := by
  induction l with
  | nil => simp [splitL]
  | cons c r ih => simp only [splitL]; split
                   · simpa using ih
                   · split <;> (simp_all; try omega)
theorem splitL_mem (b : UInt8) (l : List UInt8) : ∀ x ∈ splitL b l, x.length ≤ l.length := by
  induction l with
  | nil => simp [splitL]
  | cons c r ih =>
    intro x hx
    simp only [splitL] at hx
    split at hx
    · rcases List.mem_cons.1 hx with rfl | h
      · simp
      · have := ih x h; simp; omega
    · split at hx
      · simp at hx; subst hx; simp
      · rename_i p ps hs
        rcases List.mem_cons.1 hx with rfl | h
        · have := ih p (by rw [hs]; simp); simp; omega
        · have := ih x (by rw [hs]; simp [h]); simp; omega

set_option maxHeartbeats 1600000 in
theorem Words_any (s : ByteArray) (w : World) (hs : s.size ≤ 100000) :
    Calls Tryd.prog 24 #[.string s] w fun e w' => ∃ A c, e = .returned (.slice A (wordsL s.data.toList).length c) ∧ (wordsL s.data.toList).length ≤ c ∧
      RdP w' (NewP w.heap.size w') 1 A (wordsL s.data.toList).length (strsV (wordsL s.data.toList)) ∧ Below w.heap.size w w' := by
  have hsp := splitL_len 32 s.data.toList
  rw [← size_eq] at hsp
  go_enter Tryd.func24, Tryd.ntmps24
  go_wp2_with (go_at_call 23; refine (split_any s 32 _ (by omega)).mono ?_; rintro e w1 ⟨A, c, rfl, hcap, hRn, hb1⟩)
  have hR := hRn.news
  clear hRn
  obtain ⟨L, hL⟩ : ∃ L, L = splitL 32 s.data.toList := ⟨_, rfl⟩
  rw [← hL] at hR hsp ⊢
  have HL := Lib.hid hL
  clear hL
  have hB1 := hb1.size
  have hR2 := hR.2
  obtain ⟨n, hn⟩ : ∃ n, n = L.length := ⟨_, rfl⟩
  rw [← hn] at hR hR2 hsp ⊢
  have HN := Lib.hid hn
  clear hn
  go_loopw [3, 5] (fun v i wr => ∃ k : Nat, k ≤ n ∧ i = .int .i64 k ∧
      wr.ownsRow w1.heap.size 9 1 v ((L.take k).filter fun x => !x.isEmpty).length (strsV ((L.take k).filter fun x => !x.isEmpty)) ∧ Below w1.heap.size w1 wr)
    (fun _ i _ => n - (intOf i).toNat)
  case atStart => exact ⟨0, Nat.zero_le _, rfl, World.ownsRow_nil _ _ _ _, Below.refl _ _⟩
  case round =>
    obtain ⟨k, hk, rfl, hown, hb⟩ := hrel
    have hl : ((L.take k).filter fun x => !x.isEmpty).length ≤ k := Nat.le_trans (List.length_filter_le _ _) (List.length_take_le _ _)
    have hB := hb.size
    by_cases hlt : k < n
    · have hx : k < L.length := by rw [← HN.out]; exact hlt
      obtain ⟨ad, rfl, hbk, hc⟩ := hR2 (by omega)
      have g1 : wr.cell? (ad.add k) = some (.string (bs L[k])) := (hb.cell (by rw [block_of_add]; exact hbk)).trans (hc k _ (by simp [hx]))
      have HS := Lib.hid (List.take_succ_eq_append_getElem hx)
      clear hc hR hR2
      go_wp2_with (at_builtin; refine wpList_app1 El41 rfl _ _ rfl rfl hown rfl rfl (by simp [Value.oneCell']) (by omega) hB hb ?_; intro v' w2 hown' hb')
      · have he : (!L[k].isEmpty) = true := by assumption
        go_roundw
        case rel => exact ⟨k + 1, by omega, by go_num, by rw [HS.out, List.filter_append]; simpa [he, strsV] using hown', hb'⟩
        case measure => simp [intOf]; omega
      · have he : (!L[k].isEmpty) = false := by assumption
        go_roundw
        case rel => exact ⟨k + 1, by omega, by go_num, by rw [HS.out, List.filter_append]; simpa [he, strsV] using hown, hb⟩
        case measure => simp [intOf]; omega
    · have hT : L.take k = L := List.take_of_length_le (by rw [← HN.out]; omega)
      rw [hT] at hown
      have HT := Lib.hid hT
      clear hT
      go_wp2
      go_ret
      have hw : L.filter (fun x => !x.isEmpty) = wordsL s.data.toList := by rw [HL.out]; rfl
      rw [hw] at hown
      obtain ⟨A, c, rfl, hc, hr⟩ := RdP.of_own hown
      exact ⟨A, c, rfl, hc, hr.mono fun _ h => ⟨Nat.le_trans hB1 h.1, h.2⟩, hb1.trans (hb.mono hB1)⟩
end Go.Proofs.YtmmmepmjmofbjaaDoor
