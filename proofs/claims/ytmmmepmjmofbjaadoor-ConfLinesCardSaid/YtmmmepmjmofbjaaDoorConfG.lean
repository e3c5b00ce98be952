/- lookoutref17.Check. -/
import Derived.Test.YtmmmepmjmofbjaaDoorProg
import Derived.Test.YtmmmepmjmofbjaaDoorInf
import Derived.Test.YtmmmepmjmofbjaaDoorConfF
set_option linter.unusedVariables false
namespace Go.Proofs.YtmmmepmjmofbjaaDoor
open Go Go.RowKit

def fieldsOk (c : Cf) : Bool := decide (1 ≤ c.so) && decide (c.so ≤ 8) && decide (1 ≤ c.ro) && decide (c.ro ≤ 64) && decide (1 ≤ c.qu) && decide (c.qu ≤ 64) && decide (1 ≤ c.ti) && decide (0 ≤ c.pa)
def wOk (x : Int) : Bool := decide (1 ≤ x) && decide (x ≤ 16)
def checkE (c : Cf) : Int := if fieldsOk c && c.we.all wOk then (if (c.we.length : Int) = c.so then 0 else 34) else 33

theorem checkE_bad {c : Cf} (h : fieldsOk c = false) : checkE c = 33 := by simp [checkE, h]
theorem checkE_w {c : Cf} {k : Nat} (h : k < c.we.length) (hw : wOk c.we[k] = false) : checkE c = 33 := by
  have : c.we.all wOk = false := by rw [List.all_eq_false]; exact ⟨_, List.getElem_mem h, by simp [hw]⟩
  simp [checkE, this]
theorem checkE_ok {c : Cf} (h : fieldsOk c = true) (hw : c.we.all wOk = true) : checkE c = if (c.we.length : Int) = c.so then 0 else 34 := by simp [checkE, h, hw]

set_option maxRecDepth 100000 in
set_option maxHeartbeats 3200000 in
theorem Check_any (c : Cf) (A : Option Addr) (cap : Nat) (w : World) (hl : c.we.length ≤ 1000000) (hR : Reads w w.heap.size 1 A c.we.length (intsV c.we)) :
    Calls Tryd.prog 14 #[c.v A cap] w fun e w' => e = .returned (.int .i64 (checkE c)) ∧ Below w.heap.size w w' := by
  have hR2 := hR.2
  have HW := Lib.hid (fun k (h : k < c.we.length) => checkE_w (c := c) h)
  have HB := Lib.hid (checkE_bad (c := c))
  have HO := Lib.hid (checkE_ok (c := c))
  obtain ⟨so, ro, ol, we, qu, ti, pa⟩ := c
  simp only at hR hR2 hl
  obtain ⟨n, hn⟩ : ∃ n, n = we.length := ⟨_, rfl⟩
  rw [← hn] at hl hR2 hR
  have e0 : Cf.v ⟨so, ro, ol, we, qu, ti, pa⟩ A cap = cfv so ro ol A n cap qu ti pa := by rw [hn]
  rw [e0]
  have HN := Lib.hid hn
  clear hn e0
  obtain ⟨r, hr⟩ : ∃ r, r = checkE ⟨so, ro, ol, we, qu, ti, pa⟩ := ⟨_, rfl⟩
  rw [← hr]
  have HR := Lib.hid hr
  clear hr
  by_cases hf : (1 ≤ so ∧ so ≤ 8) ∧ (1 ≤ ro ∧ ro ≤ 64) ∧ (1 ≤ qu ∧ qu ≤ 64) ∧ 1 ≤ ti ∧ 0 ≤ pa
  · have HF : Hid (fieldsOk ⟨so, ro, ol, we, qu, ti, pa⟩ = true) := by
      show fieldsOk _ = true
      obtain ⟨⟨a1, a2⟩, ⟨a3, a4⟩, ⟨a5, a6⟩, a7, a8⟩ := hf
      simp [fieldsOk, a1, a2, a3, a4, a5, a6, a7, a8]
    obtain ⟨⟨a1, a2⟩, ⟨a3, a4⟩, ⟨a5, a6⟩, a7, a8⟩ := hf
    go_enter Tryd.func14, Tryd.ntmps14
    go_wp2
    go_loopw [3] (fun i wr => ∃ k : Nat, k ≤ n ∧ i = .int .i64 k ∧ wr = w.alloc (.cells #[.int .i64 so, .int .i64 ro, .bool ol, .slice A n cap, .int .i64 qu, .int .i64 ti, .int .i64 pa] 29) ∧ (we.take k).all wOk = true) (fun i _ => n - (intOf i).toNat)
    case atStart => exact ⟨0, Nat.zero_le _, rfl, rfl, rfl⟩
    case round =>
      obtain ⟨k, hk, rfl, rfl, hall⟩ := hrel
      have HA := Lib.hid hall
      clear hall
      by_cases hlt : k < n
      · obtain ⟨ad, rfl, hb, hc⟩ := hR2 (by omega)
        have hx : k < we.length := by rw [← HN.out]; exact hlt
        obtain ⟨x, hxe⟩ : ∃ x, x = we[k] := ⟨_, rfl⟩
        have g1 : ∀ o1, (w.alloc o1).cell? (ad.add k) = some (.int .i64 x) := fun o1 => by
          rw [World.cell?_alloc_lt _ _ _ (by rw [block_of_add]; exact hb), hxe]
          exact hc k _ (intsV_get hx)
        have HX := Lib.hid hxe
        have HS := Lib.hid (List.take_succ_eq_append_getElem hx)
        clear hc hR hR2 hxe
        by_cases b1 : x < 1
        · go_wp2
          go_ret
          exact ⟨ret_int (by rw [HR.out]; exact (HW.out k hx (by rw [← HX.out]; simp [wOk]; omega)).symm), (by repeat (first | (with_reducible assumption) | (with_reducible exact Below.refl _ _) | (with_reducible refine Below.drewN ?_ _) | (with_reducible refine Below.drew ?_) | (with_reducible refine Below.setCell ?_ (by first | omega | (simp; done) | (simp; omega) | (simp [World.setCell]; done) | (simp [World.setCell]; omega)) _) | (with_reducible refine Below.alloc ?_ (by first | omega | (simp; done) | (simp; omega) | (simp [World.setCell]; done) | (simp [World.setCell]; omega)) _)))⟩
        by_cases b2 : 16 < x
        · go_wp2
          go_ret
          exact ⟨ret_int (by rw [HR.out]; exact (HW.out k hx (by rw [← HX.out]; simp [wOk]; omega)).symm), (by repeat (first | (with_reducible assumption) | (with_reducible exact Below.refl _ _) | (with_reducible refine Below.drewN ?_ _) | (with_reducible refine Below.drew ?_) | (with_reducible refine Below.setCell ?_ (by first | omega | (simp; done) | (simp; omega) | (simp [World.setCell]; done) | (simp [World.setCell]; omega)) _) | (with_reducible refine Below.alloc ?_ (by first | omega | (simp; done) | (simp; omega) | (simp [World.setCell]; done) | (simp [World.setCell]; omega)) _)))⟩
        go_wp2
        go_roundw
        case rel => exact ⟨k + 1, by omega, by go_num, (by first | trivial | rfl), by rw [HS.out, List.all_append, HA.out]; simp [wOk, ← HX.out]; omega⟩
        case measure => simp [intOf]; omega
      · have e3 : we.take k = we := List.take_of_length_le (by rw [← HN.out]; omega)
        have HT : Hid (we.all wOk = true) := by rw [← e3]; exact HA.out
        clear e3
        have HQ := Lib.hid (HO.out HF.out HT.out)
        by_cases hq : (n : Int) = so
        · have hq1 : ((n : Int) != so) = false := by simp [hq]
          have HE := Lib.hid hq
          clear hq
          go_wp2
          go_ret
          exact ⟨ret_int (by rw [HR.out, HQ.out]; rw [← HN.out, if_pos HE.out]), (by repeat (first | (with_reducible assumption) | (with_reducible exact Below.refl _ _) | (with_reducible refine Below.drewN ?_ _) | (with_reducible refine Below.drew ?_) | (with_reducible refine Below.setCell ?_ (by first | omega | (simp; done) | (simp; omega) | (simp [World.setCell]; done) | (simp [World.setCell]; omega)) _) | (with_reducible refine Below.alloc ?_ (by first | omega | (simp; done) | (simp; omega) | (simp [World.setCell]; done) | (simp [World.setCell]; omega)) _)))⟩
        · have hq1 : ((n : Int) != so) = true := by simp [hq]
          go_wp2
          go_ret
          exact ⟨ret_int (by rw [HR.out, HQ.out]; rw [← HN.out, if_neg hq]), (by repeat (first | (with_reducible assumption) | (with_reducible exact Below.refl _ _) | (with_reducible refine Below.drewN ?_ _) | (with_reducible refine Below.drew ?_) | (with_reducible refine Below.setCell ?_ (by first | omega | (simp; done) | (simp; omega) | (simp [World.setCell]; done) | (simp [World.setCell]; omega)) _) | (with_reducible refine Below.alloc ?_ (by first | omega | (simp; done) | (simp; omega) | (simp [World.setCell]; done) | (simp [World.setCell]; omega)) _)))⟩
  · have HF : Hid (fieldsOk ⟨so, ro, ol, we, qu, ti, pa⟩ = false) := by
      show fieldsOk _ = false
      cases hb : fieldsOk ⟨so, ro, ol, we, qu, ti, pa⟩ with
      | false => rfl
      | true => exfalso; apply hf; simp [fieldsOk] at hb; omega
    have HG := Lib.hid hf
    clear hf
    have HE := Lib.hid (HB.out HF.out)
    go_enter Tryd.func14, Tryd.ntmps14
    go_wp2
    all_goals first
      | (go_ret; exact ⟨ret_int (by rw [HR.out, HE.out]), (by repeat (first | (with_reducible assumption) | (with_reducible exact Below.refl _ _) | (with_reducible refine Below.drewN ?_ _) | (with_reducible refine Below.drew ?_) | (with_reducible refine Below.setCell ?_ (by first | omega | (simp; done) | (simp; omega) | (simp [World.setCell]; done) | (simp [World.setCell]; omega)) _) | (with_reducible refine Below.alloc ?_ (by first | omega | (simp; done) | (simp; omega) | (simp [World.setCell]; done) | (simp [World.setCell]; omega)) _)))⟩)
      | (exfalso; apply HG.out; omega)
end Go.Proofs.YtmmmepmjmofbjaaDoor
