/- slices.Repeat of a single one. -/
import Derived.Test.YtmmmepmjmofbjaaDoorProg
import Derived.Test.YtmmmepmjmofbjaaDoorInf
import Derived.Test.YtmmmepmjmofbjaaDoorShelf
import Derived.Deep.QuietTactic
import Derived.BigQuiet
import Derived.Laws.CopyOwn
import Derived.Deep.RegionLaw
set_option linter.unusedVariables false
namespace Go.Proofs.YtmmmepmjmofbjaaDoor
open Go Go.RowKit

def RepRet (w : World) (n : Nat) (e : Ending) (w' : World) : Prop :=
  ∃ A cap, e = .returned (.slice A n cap) ∧ n ≤ cap ∧ RdP w' (NewP w.heap.size w') 1 A n (intsV (List.replicate n 1)) ∧ Below w.heap.size w w'
/-- k ones ahead of noughts -/
def onesZ (n k : Nat) : List Value := List.replicate k (.int .i64 1) ++ List.replicate (n - k) (.int .i64 0)
theorem make_any (n : Nat) (hn : n ≤ 8) (W : World) : (Instr.makeSlice 23 (.int .i64 n) (.int .i64 n)).run Tryd.prog W = .ok (.slice (some ⟨W.heap.size, 0, none⟩) n n) (W.alloc (.cells (onesZ n 0).toArray 3)) := by
  have : n = 0 ∨ n = 1 ∨ n = 2 ∨ n = 3 ∨ n = 4 ∨ n = 5 ∨ n = 6 ∨ n = 7 ∨ n = 8 := by omega
  have h0 : ∀ W, (Instr.makeSlice 23 (.int .i64 0) (.int .i64 0)).run Tryd.prog W = .ok (.slice (some ⟨W.heap.size, 0, none⟩) 0 0) (W.alloc (.cells (onesZ 0 0).toArray 3)) := fun _ => by kernel_rfl
  have h1 : ∀ W, (Instr.makeSlice 23 (.int .i64 1) (.int .i64 1)).run Tryd.prog W = .ok (.slice (some ⟨W.heap.size, 0, none⟩) 1 1) (W.alloc (.cells (onesZ 1 0).toArray 3)) := fun _ => by kernel_rfl
  have h2 : ∀ W, (Instr.makeSlice 23 (.int .i64 2) (.int .i64 2)).run Tryd.prog W = .ok (.slice (some ⟨W.heap.size, 0, none⟩) 2 2) (W.alloc (.cells (onesZ 2 0).toArray 3)) := fun _ => by kernel_rfl
  have h3 : ∀ W, (Instr.makeSlice 23 (.int .i64 3) (.int .i64 3)).run Tryd.prog W = .ok (.slice (some ⟨W.heap.size, 0, none⟩) 3 3) (W.alloc (.cells (onesZ 3 0).toArray 3)) := fun _ => by kernel_rfl
  have h4 : ∀ W, (Instr.makeSlice 23 (.int .i64 4) (.int .i64 4)).run Tryd.prog W = .ok (.slice (some ⟨W.heap.size, 0, none⟩) 4 4) (W.alloc (.cells (onesZ 4 0).toArray 3)) := fun _ => by kernel_rfl
  have h5 : ∀ W, (Instr.makeSlice 23 (.int .i64 5) (.int .i64 5)).run Tryd.prog W = .ok (.slice (some ⟨W.heap.size, 0, none⟩) 5 5) (W.alloc (.cells (onesZ 5 0).toArray 3)) := fun _ => by kernel_rfl
  have h6 : ∀ W, (Instr.makeSlice 23 (.int .i64 6) (.int .i64 6)).run Tryd.prog W = .ok (.slice (some ⟨W.heap.size, 0, none⟩) 6 6) (W.alloc (.cells (onesZ 6 0).toArray 3)) := fun _ => by kernel_rfl
  have h7 : ∀ W, (Instr.makeSlice 23 (.int .i64 7) (.int .i64 7)).run Tryd.prog W = .ok (.slice (some ⟨W.heap.size, 0, none⟩) 7 7) (W.alloc (.cells (onesZ 7 0).toArray 3)) := fun _ => by kernel_rfl
  have h8 : ∀ W, (Instr.makeSlice 23 (.int .i64 8) (.int .i64 8)).run Tryd.prog W = .ok (.slice (some ⟨W.heap.size, 0, none⟩) 8 8) (W.alloc (.cells (onesZ 8 0).toArray 3)) := fun _ => by kernel_rfl
  rcases this with rfl | rfl | rfl | rfl | rfl | rfl | rfl | rfl | rfl
  · exact h0 W
  · exact h1 W
  · exact h2 W
  · exact h3 W
  · exact h4 W
  · exact h5 W
  · exact h6 W
  · exact h7 W
  · exact h8 W
theorem onesZ_len {n k : Nat} (h : k ≤ n) : (onesZ n k).length = n := by simp [onesZ]; omega
theorem onesZ_splice {n k j : Nat} (h : k + j ≤ n) : splice (onesZ n k) k (List.replicate j (.int .i64 1)) = onesZ n (k + j) := by
  unfold splice onesZ
  rw [List.length_replicate, List.take_append_of_le_length (by simp), List.take_of_length_le (by simp), List.drop_append, List.drop_eq_nil_of_le (by simp), List.drop_replicate, ← List.append_assoc, List.nil_append]
  simp only [List.length_replicate, List.replicate_append_replicate]
  congr 2
  omega
theorem onesZ_get {n k j : Nat} (h : k ≤ n) (hj : j < k) : (onesZ n k)[j]? = some (.int .i64 1) := by
  unfold onesZ; rw [List.getElem?_append_left (by simpa using hj)]; simp [hj]

theorem copy_ones {w w0 : World} {b n k j dL dC sL sC : Nat} {a : Addr} (hg : w.heap[b]? = some (.cells (onesZ n k).toArray 3 (0, 0))) (hkj : k + j ≤ n) (hj : j = Nat.min sL dL)
    (hs : ∀ i, i < j → w.cell? (a.add i) = some (.int .i64 1)) (hb : Below b w0 w) :
    ∃ w', (Builtin.copy_ #[23, 23] 3 #[.slice (some ⟨b, k, none⟩) dL dC, .slice (some a) sL sC]).run Tryd.prog w = .ok (.int .i64 j) w' ∧ w'.heap[b]? = some (.cells (onesZ n (k + j)).toArray 3 (0, 0)) ∧ Below b w0 w' := by
  have h := run_copy_row (P := Tryd.prog) w 23 23 3 3 b k dL dC a sL sC (onesZ n k).toArray 3 (List.replicate j (.int .i64 1)) (by kernel_rfl) (by kernel_rfl) hg (by simpa using hj)
    (by intro i v hi
        rw [List.getElem?_replicate] at hi
        split at hi
        · rename_i h; simp at hi; subst hi; exact hs i h
        · cases hi) (by simp [onesZ]; omega) (by intro v hv; rw [(List.mem_replicate.1 hv).2]; rfl)
  refine ⟨_, h.trans (by rw [List.length_replicate]; rfl), ?_, below_setRow hb (Nat.le_refl _) _⟩
  rw [setRow_heap w b _ _ _ _ hg]
  have := onesZ_splice hkj
  unfold splice at this
  rw [List.append_assoc]
  rw [← this]
  simp

set_option maxRecDepth 100000 in
set_option maxHeartbeats 1600000 in
theorem repeat_any (n : Nat) (h0 : 1 ≤ n) (h8 : n ≤ 8) (g : Nat) (w : World) (h : w.heap[g]? = some (.cells #[.int .i64 1] 3 (0, 0))) :
    Calls Tryd.prog 22 #[.slice (some ⟨g, 0, none⟩) 1 1, .int .i64 n] w (RepRet w n) := by
  have f0 := fun i => cell_of_row w g i _ _ _ h
  have hg : g < w.heap.size := (Array.getElem?_eq_some_iff.1 h).1
  have hmk := make_any n h8
  have hml := Tryd.bits_Mul 1 n (by decide) (by omega)
  have e1 : (1 * n / 18446744073709551616 : Nat) = 0 := by omega
  have e2 : (1 * n % 18446744073709551616 : Nat) = n := by omega
  rw [e1, e2] at hml
  clear e1 e2
  have HML := Lib.hid hml
  clear hml
  have hz : ∀ v, (onesZ n 0).toArray = v → v.size = n := by intro v hv; rw [← hv]; simp [onesZ]
  obtain ⟨Z, hZ⟩ : ∃ Z, Z = onesZ n 0 := ⟨_, rfl⟩
  rw [← hZ] at hmk
  have HZ := Lib.hid hZ
  clear hZ hz
  go_enter Tryd.func22, Tryd.ntmps22
  go_upto_region 7 with (go_at_call 38; refine (HML.out _).mono ?_; rintro e w2 ⟨rfl, hw⟩; subst hw)
  have q3 := heap_alloc_new w2 (.cells Z.toArray 3)
  have hb3 : Below w2.heap.size w2 (w2.alloc (.cells Z.toArray 3)) := (by repeat (first | (with_reducible assumption) | (with_reducible exact Below.refl _ _) | (with_reducible refine Below.drewN ?_ _) | (with_reducible refine Below.drew ?_) | (with_reducible refine Below.setCell ?_ (by first | omega | (simp; done) | (simp; omega) | (simp [World.setCell]; done) | (simp [World.setCell]; omega)) _) | (with_reducible refine Below.alloc ?_ (by first | omega | (simp; done) | (simp; omega) | (simp [World.setCell]; done) | (simp [World.setCell]; omega)) _)))
  have f1 : ∀ o, (w2.alloc o).cell? ⟨g, 0, none⟩ = some (.int .i64 1) := fun o => (World.cell?_alloc_lt _ _ _ hg).trans (f0 0)
  have f2 := f1 (.cells Z.toArray 3)
  obtain ⟨w3, hw3⟩ : ∃ w3, w3 = w2.alloc (.cells Z.toArray 3) := ⟨_, rfl⟩
  rw [← hw3] at q3 hb3 f2 ⊢
  clear hw3 f0 f1 hmk
  have hlen0 : Z.length = n := by rw [HZ.out, onesZ_len (by omega)]
  have hf2 : ∀ i, i < 1 → w3.cell? ((⟨g, 0, none⟩ : Addr).add i) = some (.int .i64 1) := by
    intro i hi
    obtain rfl : i = 0 := by omega
    exact f2
  obtain ⟨w4, hcp, q4, hb4⟩ := copy_ones (k := 0) (j := 1) (n := n) (dL := n) (dC := n) (sL := 1) (sC := 1) (a := ⟨g, 0, none⟩) (by rw [← HZ.out]; exact q3) (by omega) (by show 1 = min 1 n; omega) hf2 hb3
  go_wp2
  go_loopw [8] (fun i wr => ∃ k : Nat, 1 ≤ k ∧ k ≤ n ∧ i = .int .i64 k ∧ wr.heap[w2.heap.size]? = some (.cells (onesZ n k).toArray 3 (0, 0)) ∧ Below w2.heap.size w2 wr) (fun i _ => n - (intOf i).toNat)
  case atStart => exact ⟨1, by omega, h0, rfl, q4, hb4⟩
  case round =>
    obtain ⟨k, hk1, hkn, rfl, q5, hb5⟩ := hrel
    have Q5 := Lib.hid q5
    by_cases hlt : k < n
    · have hs1 : ∀ V, (Instr.slice 23 (.slice (some ⟨w2.heap.size, 0, none⟩) n n) (some (.int .i64 k)) none none).run Tryd.prog V = .ok (.slice (some ⟨w2.heap.size, k, none⟩) (n - k) (n - k)) V := by
        intro V
        have := run_slice_tail (P := Tryd.prog) (t := 23) (e := 3) (size := 1) (by kernel_rfl) (fun _ => by kernel_rfl) (some ⟨w2.heap.size, 0, none⟩) n n k hkn V
        rw [this, if_neg (by omega)]
        have hk0 : ¬ k = 0 := by omega
        simp [Addr.add, hk0]
      obtain ⟨j, hj⟩ : ∃ j, j = min k (n - k) := ⟨_, rfl⟩
      have hj0 : 1 ≤ j := by omega
      have hjn : k + j ≤ n := by omega
      have hwr : wrap64 ((k : Int) + (j : Int)) = ((k + j : Nat) : Int) := by unfold wrap64; omega
      obtain ⟨w6, hcp6, q6, hb6⟩ := copy_ones (w := wr.drew) (w0 := w2) (b := w2.heap.size) (k := k) (j := j) (n := n) (dL := n - k) (dC := n - k) (sL := k) (sC := n) (a := ⟨w2.heap.size, 0, none⟩) q5 (by omega) hj (by
        intro i hi
        have : (⟨w2.heap.size, 0, none⟩ : Addr).add i = ⟨w2.heap.size, i, none⟩ := by unfold Addr.add; split <;> simp_all
        rw [this]
        show wr.cell? _ = _
        rw [cell_of_row wr w2.heap.size i _ _ _ q5]
        simpa using onesZ_get (n := n) hkn (by omega : i < k)) hb5.drew
      have HJ := Lib.hid hj
      clear hj q5
      go_wp2
      go_region
      go_wp2
      go_roundw
      case rel => exact ⟨k + j, by omega, by omega, by simp, q6, hb6⟩
      case measure => simp [intOf]; omega
    · obtain rfl : k = n := by omega
      go_wp2
      go_ret
      refine ⟨_, _, rfl, Nat.le_refl _, ⟨by simp [intsV], fun _ => ⟨_, rfl, ⟨Nat.le_refl _, (Array.getElem?_eq_some_iff.1 Q5.out).1⟩, ?_⟩⟩, hb5⟩
      intro i u hi
      have : (⟨w2.heap.size, 0, none⟩ : Addr).add i = ⟨w2.heap.size, i, none⟩ := by unfold Addr.add; split <;> simp_all
      rw [this, cell_of_row wr w2.heap.size i _ _ _ Q5.out]
      have : onesZ k k = intsV (List.replicate k 1) := by simp [onesZ, intsV]
      rw [← this] at hi
      simpa using hi
end Go.Proofs.YtmmmepmjmofbjaaDoor
