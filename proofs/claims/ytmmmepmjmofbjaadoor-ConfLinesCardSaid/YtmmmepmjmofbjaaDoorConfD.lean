/- lookoutref02.Digits: the decimal numeral. -/
import Derived.Test.YtmmmepmjmofbjaaDoorProg
import Derived.Test.YtmmmepmjmofbjaaDoorInf
import Derived.Lib.ItoaNum
set_option linter.unusedVariables false
namespace Go.Proofs.YtmmmepmjmofbjaaDoor
open Go Go.RowKit

theorem dec_small {k : Nat} (h : k < 10) : Lib.decDigits k = [UInt8.ofNat (48 + k)] := by rw [Lib.decDigits, dif_pos h]
theorem dec_big {k : Nat} (h : ¬ k < 10) : Lib.decDigits k = Lib.decDigits (k / 10) ++ [UInt8.ofNat (48 + k % 10)] := by rw [Lib.decDigits, dif_neg h]

set_option maxRecDepth 100000 in
set_option maxHeartbeats 1600000 in
theorem Digits_pos (n : Int) (w : World) (hn : 0 ≤ n) (hn' : n ≤ 9223372036854775807) :
    Calls Tryd.prog 17 #[.int .i64 n] w fun e w' => e = .returned (.string (bs (Lib.itoa n))) ∧ Below w.heap.size w w' := by
  go_enter Tryd.func17, Tryd.ntmps17
  go_wp2
  go_loopw [3, 4] (fun u s wr => ∃ (k : Nat) (t : List UInt8), (k : Int) ≤ n ∧ u = .int .u64 k ∧ s = .string (bs t) ∧ t.length * 2 + k ≤ n ∧ Lib.decDigits n.toNat = Lib.decDigits k ++ t ∧ Below w.heap.size w wr) (fun u _ _ => (intOf u).toNat)
  case atStart => exact ⟨n.toNat, [], by omega, by go_num, rfl, by simp; omega, by simp, Below.refl _ _⟩
  case round =>
    obtain ⟨k, t, hk, rfl, rfl, htl, hd, hb⟩ := hrel
    have HD := Lib.hid hd
    clear hd
    have hB := hb.size
    have hcv := fun (W : World) (x : Int) (h0 : 0 ≤ x) (h1 : x ≤ 255) => conv_byte1 (P := Tryd.prog) (src := 65) (dst := 9) (e := 5) (by kernel_rfl) (by kernel_rfl) (by kernel_rfl) W x h0 h1 1
    by_cases hlt : k < 10
    · have hc := fun W => hcv W (48 + k) (by omega) (by omega)
      clear hcv
      go_wp2
      go_ret
      refine ⟨ret_str ?_, (by repeat (first | (with_reducible assumption) | (with_reducible exact Below.refl _ _) | (with_reducible refine Below.drewN ?_ _) | (with_reducible refine Below.drew ?_) | (with_reducible refine Below.setCell ?_ (by first | omega | (simp; done) | (simp; omega) | (simp [World.setCell]; done) | (simp [World.setCell]; omega)) _) | (with_reducible refine Below.alloc ?_ (by first | omega | (simp; done) | (simp; omega) | (simp [World.setCell]; done) | (simp [World.setCell]; omega)) _)))⟩
      rw [Lib.itoa, if_neg (by omega), HD.out, dec_small hlt]
      apply ByteArray.ext
      apply Array.ext'
      have e1 : (48 + (k : Int)).toNat = 48 + k := by omega
      simp [ByteArray.data_append, e1]
    · have hm1 : 0 ≤ (k : Int) % 10 := by omega
      have hm2 : (k : Int) % 10 ≤ 9 := by omega
      have hc := fun W => hcv W (48 + (k : Int) % 10) (by omega) (by omega)
      have HB := Lib.hid (dec_big hlt)
      clear hcv
      go_wp2
      go_roundw
      case rel =>
        refine ⟨k / 10, UInt8.ofNat (48 + k % 10) :: t, by omega, by go_num, ?_, by simp; omega, by rw [HD.out, HB.out, List.append_assoc]; rfl, (by repeat (first | (with_reducible assumption) | (with_reducible exact Below.refl _ _) | (with_reducible refine Below.drewN ?_ _) | (with_reducible refine Below.drew ?_) | (with_reducible refine Below.setCell ?_ (by first | omega | (simp; done) | (simp; omega) | (simp [World.setCell]; done) | (simp [World.setCell]; omega)) _) | (with_reducible refine Below.alloc ?_ (by first | omega | (simp; done) | (simp; omega) | (simp [World.setCell]; done) | (simp [World.setCell]; omega)) _)))⟩
        have e1 : (48 + (k : Int) % 10).toNat = 48 + k % 10 := by omega
        congr 1
        apply ByteArray.ext
        apply Array.ext'
        simp [ByteArray.data_append, e1]
      case measure => simp [intOf]; omega
end Go.Proofs.YtmmmepmjmofbjaaDoor
