/- Same and Digits. -/
import Derived.Test.YtmmmepmjmofbjaaDoorProg
import Derived.Test.YtmmmepmjmofbjaaDoorInf
import Derived.Test.YtmmmepmjmofbjaaDoorConfA
import Derived.Deep.QuietTactic
import Derived.BigQuiet
set_option linter.unusedVariables false
namespace Go.Proofs.YtmmmepmjmofbjaaDoor
open Go Go.RowKit


set_option maxHeartbeats 1600000 in
theorem Same_any (so ro : Int) (ol : Bool) (A : Option Addr) (c : Nat) (l : List Int) (qu ti pa : Int) (so' ro' : Int) (ol' : Bool) (A' : Option Addr) (c' : Nat) (l' : List Int) (qu' ti' pa' : Int) (w : World)
    (hl : l.length ≤ 1000000) (hl' : l'.length ≤ 1000000) (h : Reads w w.heap.size 1 A l.length (intsV l)) (h' : Reads w w.heap.size 1 A' l'.length (intsV l')) :
    Calls Tryd.prog 11 #[cfv so ro ol A l.length c qu ti pa, cfv so' ro' ol' A' l'.length c' qu' ti' pa'] w fun e w' =>
      e = .returned (.bool (so == so' && ro == ro' && ol == ol' && l == l' && qu == qu' && ti == ti' && pa == pa')) ∧ Below w.heap.size w w' := by
  by_cases hlen : l.length = l'.length
  · obtain ⟨n, hn⟩ : ∃ n, n = l.length := ⟨_, rfl⟩
    have hn' : n = l'.length := by omega
    have HN := Lib.hid hn
    have HN' := Lib.hid hn'
    rw [← hn] at h hl ⊢
    rw [← hn'] at h' hl' ⊢
    have h0 := h.2
    have h0' := h'.2
    clear hlen hn hn'
    go_enter Tryd.func11, Tryd.ntmps11
    go_wp2
    go_loopw [5] (fun i wr => ∃ k j : Nat, k ≤ n ∧ i = .int .i64 k ∧ wr = ((w.alloc (.cells #[.int .i64 so, .int .i64 ro, .bool ol, .slice A n c, .int .i64 qu, .int .i64 ti, .int .i64 pa] 29)).alloc (.cells #[.int .i64 so', .int .i64 ro', .bool ol', .slice A' n c', .int .i64 qu', .int .i64 ti', .int .i64 pa'] 29)).drewN j ∧ l.take k = l'.take k) (fun i _ => n - (intOf i).toNat)
    case atStart => exact ⟨0, 0, Nat.zero_le _, rfl, rfl, rfl⟩
    case round =>
      obtain ⟨k, j, hk, rfl, rfl, he⟩ := hrel
      have HE := Lib.hid he
      clear he
      by_cases hlt : k < n
      · obtain ⟨ad, rfl, hb, hc⟩ := h0 (by omega)
        obtain ⟨ad', rfl, hb', hc'⟩ := h0' (by omega)
        have hx : k < l.length := by rw [← HN.out]; exact hlt
        have hx' : k < l'.length := by rw [← HN'.out]; exact hlt
        have g1 : ∀ o1 o2, ((w.alloc o1).alloc o2).cell? (ad.add k) = some (.int .i64 l[k]) := fun o1 o2 => by
          rw [World.cell?_alloc_lt _ _ _ (by rw [block_of_add]; simp; omega), World.cell?_alloc_lt _ _ _ (by rw [block_of_add]; exact hb)]
          exact hc k _ (by simp [intsV, hx])
        have g2 : ∀ o1 o2, ((w.alloc o1).alloc o2).cell? (ad'.add k) = some (.int .i64 l'[k]) := fun o1 o2 => by
          rw [World.cell?_alloc_lt _ _ _ (by rw [block_of_add]; simp; omega), World.cell?_alloc_lt _ _ _ (by rw [block_of_add]; exact hb')]
          exact hc' k _ (by simp [intsV, hx'])
        clear hc hc' h h'
        go_wp2
        go_quiet (fail)
        go_wp2
        · have hne : (l[k] != l'[k]) = true := by assumption
          go_ret
          refine ⟨ret_bool ?_, (by repeat (first | (with_reducible assumption) | (with_reducible exact Below.refl _ _) | (with_reducible refine Below.drewN ?_ _) | (with_reducible refine Below.drew ?_) | (with_reducible refine Below.setCell ?_ (by first | omega | (simp; done) | (simp; omega) | (simp [World.setCell]; done) | (simp [World.setCell]; omega)) _) | (with_reducible refine Below.alloc ?_ (by first | omega | (simp; done) | (simp; omega) | (simp [World.setCell]; done) | (simp [World.setCell]; omega)) _)))⟩
          have : (l == l') = false := by
            rw [beq_eq_false_iff_ne]; rintro rfl; simp at hne
          rw [this]; simp
        · have heq : (l[k] != l'[k]) = false := by assumption
          have HQ : l[k] = l'[k] := by simpa using heq
          go_roundw
          case rel => exact ⟨k + 1, _, by omega, by go_num, (by first | rfl | exact World.drewN_drewN _ _ _), by rw [List.take_succ_eq_append_getElem hx, List.take_succ_eq_append_getElem hx', HE.out, HQ]⟩
          case measure => simp [intOf]; omega
      · have HL : Hid (l = l') := by
          have e1 : l.take k = l := List.take_of_length_le (by rw [← HN.out]; omega)
          have e2 : l'.take k = l' := List.take_of_length_le (by rw [← HN'.out]; omega)
          have := HE.out
          rw [e1, e2] at this
          exact this
        go_wp2
        all_goals
          go_ret
          refine ⟨ret_bool ?_, (by repeat (first | (with_reducible assumption) | (with_reducible exact Below.refl _ _) | (with_reducible refine Below.drewN ?_ _) | (with_reducible refine Below.drew ?_) | (with_reducible refine Below.setCell ?_ (by first | omega | (simp; done) | (simp; omega) | (simp [World.setCell]; done) | (simp [World.setCell]; omega)) _) | (with_reducible refine Below.alloc ?_ (by first | omega | (simp; done) | (simp; omega) | (simp [World.setCell]; done) | (simp [World.setCell]; omega)) _)))⟩
          have hl := HL.out
          subst hl
          simp [*]
  · have hb : ((l.length : Int) != (l'.length : Int)) = true := by rw [bne_iff_ne]; omega
    have hne : (l == l') = false := by rw [beq_eq_false_iff_ne]; rintro rfl; exact hlen rfl
    have HN := Lib.hid hne
    clear hne hlen
    go_enter Tryd.func11, Tryd.ntmps11
    go_wp2
    go_ret
    exact ⟨ret_bool (by rw [HN.out]; simp), (by repeat (first | (with_reducible assumption) | (with_reducible exact Below.refl _ _) | (with_reducible refine Below.drewN ?_ _) | (with_reducible refine Below.drew ?_) | (with_reducible refine Below.setCell ?_ (by first | omega | (simp; done) | (simp; omega) | (simp [World.setCell]; done) | (simp [World.setCell]; omega)) _) | (with_reducible refine Below.alloc ?_ (by first | omega | (simp; done) | (simp; omega) | (simp [World.setCell]; done) | (simp [World.setCell]; omega)) _)))⟩
end Go.Proofs.YtmmmepmjmofbjaaDoor
