/- Which setting a word is: slices.IndexFunc at the settings. -/
import Derived.Test.YtmmmepmjmofbjaaDoorProg
import Derived.Test.YtmmmepmjmofbjaaDoorInf
import Derived.Test.YtmmmepmjmofbjaaDoorConfK
import Derived.Deep.QuietTactic
import Derived.BigQuiet
set_option linter.unusedVariables false
namespace Go.Proofs.YtmmmepmjmofbjaaDoor
open Go Go.RowKit

theorem lit_beq (a : List UInt8) (x : List UInt8) : ((bs a).toList == (bs x).toList) = (a == x) := by simp [ByteArray.toList_eq, bs]

/-- s.word == words[0] -/
theorem isWord_any (k : Nat) (x : List UInt8) (wb : Nat) (ad : Addr) (n cap : Nat) (w : World) (h0 : 0 < n) (hb : wb < w.heap.size) (had : ad.block < w.heap.size)
    (hc : w.cell? ⟨wb, 0, none⟩ = some (.slice (some ad) n cap)) (hx : w.cell? ad = some (.string (bs x))) :
    Calls Tryd.prog 35 #[.agg (setRow k).toArray, .pointer (some ⟨wb, 0, none⟩)] w fun e w' => e = .returned (.bool (words7.getD k [] == x)) ∧ Below w.heap.size w w' := by
  have g1 : ∀ o, (w.alloc o).cell? ⟨wb, 0, none⟩ = some (.slice (some ad) n cap) := fun o => (World.cell?_alloc_lt _ _ _ hb).trans hc
  have g2 : ∀ o, (w.alloc o).cell? ad = some (.string (bs x)) := fun o => (World.cell?_alloc_lt _ _ _ had).trans hx
  obtain ⟨y, hy⟩ : ∃ y, y = words7.getD k [] := ⟨_, rfl⟩
  have e : (setRow k).toArray = #[.string (bs y), .int .i64 (setLo.getD k 0), .int .i64 (setHi.getD k 0), .func (.func (takeF.getD k 0)) #[] #[], .func (.func (tellF.getD k 0)) #[] #[]] := by rw [hy]; rfl
  rw [e, ← hy]
  generalize setLo.getD k 0 = a1
  generalize setHi.getD k 0 = a2
  generalize takeF.getD k 0 = a3
  generalize tellF.getD k 0 = a4
  clear hy e hc hx
  go_enter Tryd.func35, Tryd.ntmps35
  go_wp2
  go_quiet (fail)
  go_wp2
  go_ret
  exact ⟨ret_bool (by simp [lit_beq]), (by repeat (first | (with_reducible assumption) | (with_reducible exact Below.refl _ _) | (with_reducible refine Below.drewN ?_ _) | (with_reducible refine Below.drew ?_) | (with_reducible refine Below.setCell ?_ (by first | omega | (simp; done) | (simp; omega) | (simp [World.setCell]; done) | (simp [World.setCell]; omega)) _) | (with_reducible refine Below.alloc ?_ (by first | omega | (simp; done) | (simp; omega) | (simp [World.setCell]; done) | (simp [World.setCell]; omega)) _)))⟩

theorem set_load {w : World} {g : Nat} (h : w.heap[g]? = some (.cells setCells 62 (0, 0))) (k : Nat) (hk : k < 7) :
    ∀ i v, (setRow k)[i]? = some v → w.cell? ⟨g, k * 5 + i, none⟩ = some v := by
  intro i v hi
  rw [cell_of_row w g (k * 5 + i) _ _ _ h]
  match k, hk with
  | 0, _ | 1, _ | 2, _ | 3, _ | 4, _ | 5, _ | 6, _ =>
    match i, hi with
    | 0, hi | 1, hi | 2, hi | 3, hi | 4, hi => exact hi
theorem setRow_eq (k : Nat) : setRow k = [.string (bs (words7.getD k [])), .int .i64 (setLo.getD k 0), .int .i64 (setHi.getD k 0), .func (.func (takeF.getD k 0)) #[] #[], .func (.func (tellF.getD k 0)) #[] #[]] := rfl
/-- the five cells of a setting -/
theorem set_five {w : World} {g : Nat} (h : w.heap[g]? = some (.cells setCells 62 (0, 0))) {k : Nat} (hk : k < 7) {a0 a1 a2 a3 a4 : Value} (hr : setRow k = [a0, a1, a2, a3, a4]) :
    w.cell? ⟨g, k * 5, none⟩ = some a0 ∧ w.cell? ⟨g, k * 5 + 1, none⟩ = some a1 ∧ w.cell? ⟨g, k * 5 + 2, none⟩ = some a2 ∧ w.cell? ⟨g, k * 5 + 3, none⟩ = some a3 ∧ w.cell? ⟨g, k * 5 + 4, none⟩ = some a4 := by
  have := set_load h k hk
  rw [hr] at this
  exact ⟨this 0 _ rfl, this 1 _ rfl, this 2 _ rfl, this 3 _ rfl, this 4 _ rfl⟩

def noneB (x : List UInt8) (k : Nat) : Prop := ∀ j, j < k → (words7.getD j [] == x) = false
theorem idx_hit {x : List UInt8} {k : Nat} (hk : k < 7) (h : noneB x k) (hx : (words7.getD k [] == x) = true) : (k : Int) = placeI x - 1 := by
  rw [beq_iff_eq] at hx
  subst hx
  match k, hk with
  | 0, _ | 1, _ | 2, _ | 3, _ | 4, _ | 5, _ | 6, _ => decide
theorem idx_miss {x : List UInt8} (h : noneB x 7) : (-1 : Int) = placeI x - 1 := by
  have : placeI x = 0 := by
    unfold placeI
    have : words7.idxOf? x = none := by
      rw [List.idxOf?_eq_none_iff]
      intro hm
      obtain ⟨j, hj, e⟩ := List.mem_iff_getElem.1 hm
      have := h j hj
      rw [List.getD_eq_getElem?_getD, List.getElem?_eq_getElem hj] at this
      simp [e] at this
    rw [this]
  rw [this]; rfl
theorem noneB_step {x : List UInt8} {k : Nat} (h : noneB x k) (hx : (words7.getD k [] == x) = false) : noneB x (k + 1) := by
  intro j hj
  by_cases e : j = k
  · subst e; exact hx
  · exact h j (by omega)

set_option maxHeartbeats 1600000 in
theorem indexFunc_any (g wb : Nat) (x : List UInt8) (w : World) (hset : w.heap[g]? = some (.cells setCells 62 (0, 0)))
    (hcl : ∀ W k, Below w.heap.size w W → Calls Tryd.prog 35 #[.agg (setRow k).toArray, .pointer (some ⟨wb, 0, none⟩)] W fun e w' => e = .returned (.bool (words7.getD k [] == x)) ∧ Below W.heap.size W w') :
    Calls Tryd.prog 34 #[.slice (some ⟨g, 0, none⟩) 7 7, .func (.func 35) #[] #[.pointer (some ⟨wb, 0, none⟩)]] w fun e w' =>
      e = .returned (.int .i64 (placeI x - 1)) ∧ Below w.heap.size w w' := by
  have hg : g < w.heap.size := (Array.getElem?_eq_some_iff.1 hset).1
  have HSET := Lib.hid hset
  have HCL := Lib.hid hcl
  clear hset hcl
  go_enter Tryd.func34, Tryd.ntmps34
  go_wp2
  go_loopw [5, 8] (fun _ i wr => ∃ k : Nat, k ≤ 7 ∧ i = .int .i64 k ∧ Below w.heap.size w wr ∧ Hid (noneB x k)) (fun _ i _ => 7 - (intOf i).toNat)
  case atStart => exact ⟨0, by omega, rfl, Below.refl _ _, fun j hj => absurd hj (Nat.not_lt_zero _)⟩
  case round =>
    obtain ⟨k, hk, rfl, hbl, hno⟩ := hrel
    by_cases hlt : k < 7
    · obtain ⟨a0, a1, a2, a3, a4, hr⟩ : ∃ a0 a1 a2 a3 a4, setRow k = [a0, a1, a2, a3, a4] := ⟨_, _, _, _, _, rfl⟩
      obtain ⟨l0, l1, l2, l3, l4⟩ := set_five ((hbl.block g hg).trans HSET.out) hlt hr
      have hcall := Lib.hid (HCL.out wr k hbl)
      rw [hr] at hcall
      clear hr
      cases hq : (words7.getD k [] == x) with
      | true =>
        rw [hq] at hcall
        have HQ := Lib.hid hq
        clear hq
        go_wp2_with (go_at_call 35; refine hcall.out.mono ?_; rintro e w' ⟨rfl, hb'⟩)
        go_ret
        exact ⟨ret_int (idx_hit hlt hno.out HQ.out), hbl.trans (hb'.mono hbl.size)⟩
      | false =>
        rw [hq] at hcall
        have HQ := Lib.hid hq
        clear hq
        go_wp2_with (go_at_call 35; refine hcall.out.mono ?_; rintro e w' ⟨rfl, hb'⟩)
        go_roundw
        case rel => exact ⟨k + 1, by omega, by go_num, hbl.trans (hb'.mono hbl.size), noneB_step hno.out HQ.out⟩
        case measure => simp [intOf]; omega
    · obtain rfl : k = 7 := by omega
      go_wp2
      go_ret
      exact ⟨ret_int (idx_miss hno.out), hbl⟩
end Go.Proofs.YtmmmepmjmofbjaaDoor
