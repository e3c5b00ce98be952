/- The law ConfNumbers returns true. -/
import Derived.Test.YtmmmepmjmofbjaaDoorProg
import Derived.Test.YtmmmepmjmofbjaaDoorInf
import Derived.Test.YtmmmepmjmofbjaaDoorConfW
import Derived.Test.YtmmmepmjmofbjaaDoorConfX
import Derived.Test.YtmmmepmjmofbjaaDoorConfBk
import Derived.Test.YtmmmepmjmofbjaaDoorPlainR
import Derived.Deep.DeepCutAuto
set_option linter.unusedVariables false
namespace Go.Proofs.YtmmmepmjmofbjaaDoor
open Go Go.RowKit

theorem and_mask (n : Int) : 0 ≤ bits .and .i64 n 9223372036854775807 ∧ bits .and .i64 n 9223372036854775807 ≤ 9223372036854775807 := by
  have hx : (BitVec.ofInt 64 n &&& BitVec.ofInt 64 9223372036854775807).toNat ≤ 9223372036854775807 := by
    rw [BitVec.toNat_and]
    exact Nat.le_trans Nat.and_le_right (by decide)
  have e : bits .and .i64 n 9223372036854775807 = IntKind.i64.wrap ((BitVec.ofInt 64 n &&& BitVec.ofInt 64 9223372036854775807).toNat : Int) := rfl
  rw [e, IntKind.wrap_i64]
  omega
theorem nm_lit1 : readS [116, 105, 109, 101, 111, 117, 116, 32, 57, 50, 50, 51, 51, 55, 50, 48, 51, 54, 56, 53, 52, 55, 55, 53, 56, 48, 56] = (Cf.zero, 33, 1) := by kernel_rfl
theorem nm_lit2 : readS [116, 105, 109, 101, 111, 117, 116, 32, 57, 50, 50, 51, 51, 55, 50, 48, 51, 54, 56, 53, 52, 55, 55, 53, 56, 48, 55, 48] = (Cf.zero, 33, 1) := by kernel_rfl
theorem nm_check {m : Int} (h : 1 ≤ m) : checkE ⟨1, 1, false, [1], 1, m, 0⟩ = 0 := by
  have h1 : fieldsOk ⟨1, 1, false, [1], 1, m, 0⟩ = true := by simp [fieldsOk]; omega
  simp [checkE, h1, wOk]
theorem nm_nought {m : Int} (h : 0 ≤ m) (h2 : m ≤ 9223372036854775807) : readS ([116, 105, 109, 101, 111, 117, 116, 32, 48] ++ Lib.itoa m) = (Cf.zero, 11, 1) := by
  have hl := Lib.itoa_length_le m (by omega) h2
  obtain ⟨k, rfl⟩ := Int.eq_ofNat_of_zero_le h
  rw [itoa_nat] at hl ⊢
  have hd := dec_dig k
  have hne := dec_ne k
  generalize Lib.decDigits k = d at hl hd hne
  have n10 : (10 : UInt8) ∉ [116, 105, 109, 101, 111, 117, 116, 32, 48] ++ d := by
    intro hm
    rcases List.mem_append.1 hm with hm | hm
    · simp at hm
    · exact digB_no hd (by decide) hm
  have n32 : (32 : UInt8) ∉ 48 :: d := by
    intro hm
    rcases List.mem_cons.1 hm with hm | hm
    · simp at hm
    · exact digB_no hd (by decide) hm
  have e1 : splitL 10 ([116, 105, 109, 101, 111, 117, 116, 32, 48] ++ d) = [[116, 105, 109, 101, 111, 117, 116, 32, 48] ++ d] := splitL_no 10 _ n10
  have e2 : [116, 105, 109, 101, 111, 117, 116, 32, 48] ++ d = [116, 105, 109, 101, 111, 117, 116] ++ 32 :: (48 :: d) := rfl
  have e3 : wordsL ([116, 105, 109, 101, 111, 117, 116, 32, 48] ++ d) = [[116, 105, 109, 101, 111, 117, 116], 48 :: d] := by
    unfold wordsL
    rw [e2, splitL_cut 32 _ _ (by decide), splitL_no 32 _ n32]
    rfl
  have hnum : isNum (48 :: d) = false := by
    cases d with
    | nil => exact absurd rfl hne
    | cons a r => simp [isNum]
  have e4 : lineE 6 [48 :: d] = 11 := by simp [lineE, hnum]
  have hpl : placeI [116, 105, 109, 101, 111, 117, 116] = 6 := by decide
  have e5 : oneLine st0 (wordsL ([116, 105, 109, 101, 111, 117, 116, 32, 48] ++ d)) = (11, st0) := by
    rw [e3, one_bad (by decide) (by rw [hpl]; decide) (by rfl) (by rw [hpl, e4]; decide), hpl, e4]
  have hg : linesGo (splitL 10 ([116, 105, 109, 101, 111, 117, 116, 32, 48] ++ d)) 0 st0 = (11, 0, st0) := by
    rw [e1]; simp only [linesGo]; rw [e5]; rfl
  rw [readS_err (by simp; omega) hg (by decide)]
  rfl

set_option maxRecDepth 100000 in
set_option maxHeartbeats 6400000 in
theorem ConfNumbers_any (x : Int) (w : World) (hE : Env w) :
    Calls Tryd.prog 7 #[.int .i64 x] w fun e w' => e = .returned (.bool true) ∧ Below w.heap.size w w' := by
  have HE := Lib.hid hE
  clear hE
  obtain ⟨hb0, hb1⟩ := and_mask x
  go_enter Tryd.func7, Tryd.ntmps7
  go_wp2_with fail
  refine (awake_any _ (HE.out.out (by repeat (first | (with_reducible assumption) | (with_reducible exact Below.refl _ _) | (with_reducible refine Below.drewN ?_ _) | (with_reducible refine Below.drew ?_) | (with_reducible refine Below.setCell ?_ (by first | omega | (simp; done) | (simp; omega) | (simp [World.setCell]; done) | (simp [World.setCell]; omega)) _) | (with_reducible refine Below.alloc ?_ (by first | omega | (simp; done) | (simp; omega) | (simp [World.setCell]; done) | (simp [World.setCell]; omega)) _))))).mono ?_
  rintro e w1 ⟨rfl, hw1⟩
  go_upto_if 25 with fail
  generalize bits .and .i64 x 9223372036854775807 = m0 at *
  go_cut [4] (fun s4 wx => ∃ m : Int, s4 = .int .i64 m ∧ 1 ≤ m ∧ m ≤ 9223372036854775807 ∧ wx = w1)
  case first =>
    by_cases h0 : m0 = 0
    · have d0 : (m0 == 0) = true := by simp [h0]
      clear h0
      go_wp2_with fail
      go_meet
      exact ⟨1, rfl, by decide, by decide, rfl⟩
    · have d0 : (m0 == 0) = false := by simp [h0]
      go_wp2_with fail
      go_meet
      exact ⟨m0, rfl, by omega, hb1, rfl⟩
  case rest =>
    obtain ⟨m, rfl, hm0, hm1, rfl⟩ := hcut
    clear hb0 hb1
    have HCK := Lib.hid (nm_check hm0)
    have HM := Lib.hid hm0
    obtain ⟨L, hL⟩ : ∃ L, L = showS ⟨1, 1, false, [1], 1, m, 0⟩ := ⟨_, rfl⟩
    have HL := Lib.hid hL
    have hlen := show_len (nm_check hm0) hm1 (show (0 : Int) ≤ 9223372036854775807 by decide)
    have hbk := back (nm_check hm0) hm1 (show (0 : Int) ≤ 9223372036854775807 by decide)
    rw [← hL] at hlen hbk
    have HBK := Lib.hid hbk
    have HN0 := Lib.hid (nm_nought (m := m) (by omega) hm1)
    have hit := Lib.itoa_length_le m (by omega) hm1
    have hmm : (m == m) = true := by simp
    clear hL hbk
    go_upto_region 8 with fail
    have R1 : Reads ((wc.alloc (.cells #[.int .i64 1] 3)).alloc (.cells #[.int .i64 1, .int .i64 1, .bool false, .slice (some ⟨wc.heap.size, 0, none⟩) 1 1, .int .i64 1, .int .i64 m, .int .i64 0] 25)) ((wc.alloc (.cells #[.int .i64 1] 3)).alloc (.cells #[.int .i64 1, .int .i64 1, .bool false, .slice (some ⟨wc.heap.size, 0, none⟩) 1 1, .int .i64 1, .int .i64 m, .int .i64 0] 25)).heap.size 1 (some ⟨wc.heap.size, 0, none⟩) 1 (intsV [1]) := by
      refine ⟨by simp [intsV], fun _ => ⟨_, rfl, by simp; omega, fun j u hu => ?_⟩⟩
      match j, hu with
      | 0, hu =>
        simp only [intsV, List.map_cons, List.getElem?_cons_zero, Option.some.injEq] at hu
        subst hu
        rw [World.cell?_alloc_lt _ _ _ (by simp [Addr.add])]
        show (wc.alloc _).cell? ⟨wc.heap.size, 0, none⟩ = _
        rw [cell_of_row _ wc.heap.size 0 _ 3 (0, 0) (heap_alloc_new wc _)]
        rfl
    have hb3 : Below w.heap.size w ((wc.alloc (.cells #[.int .i64 1] 3)).alloc (.cells #[.int .i64 1, .int .i64 1, .bool false, .slice (some ⟨wc.heap.size, 0, none⟩) 1 1, .int .i64 1, .int .i64 m, .int .i64 0] 25)) := Below.trans hw1 (((Below.refl _ _).alloc hw1.size _).alloc (by have := hw1.size; simp; omega) _)
    have q3 : ((wc.alloc (.cells #[.int .i64 1] 3)).alloc (.cells #[.int .i64 1, .int .i64 1, .bool false, .slice (some ⟨wc.heap.size, 0, none⟩) 1 1, .int .i64 1, .int .i64 m, .int .i64 0] 25)).heap[wc.heap.size + 1]? = some (.cells #[.int .i64 1, .int .i64 1, .bool false, .slice (some ⟨wc.heap.size, 0, none⟩) 1 1, .int .i64 1, .int .i64 m, .int .i64 0] 25 (0, 0)) := by
      have := heap_alloc_new (wc.alloc (.cells #[.int .i64 1] 3)) (.cells #[.int .i64 1, .int .i64 1, .bool false, .slice (some ⟨wc.heap.size, 0, none⟩) 1 1, .int .i64 1, .int .i64 m, .int .i64 0] 25)
      simpa using this
    obtain ⟨w3, hw3⟩ : ∃ w3, w3 = ((wc.alloc (.cells #[.int .i64 1] 3)).alloc (.cells #[.int .i64 1, .int .i64 1, .bool false, .slice (some ⟨wc.heap.size, 0, none⟩) 1 1, .int .i64 1, .int .i64 m, .int .i64 0] 25)) := ⟨_, rfl⟩
    rw [← hw3] at R1 hb3 q3 ⊢
    clear hw3
    have f3 := fun i => cell_of_row w3 (wc.heap.size + 1) i _ _ _ q3
    go_wp2_with fail
    refine (show_at 1 1 false [1] 1 m 0 1 rfl (some ⟨wc.heap.size, 0, none⟩) 1 w3 (HE.out.out hb3) (by decide) R1 hm1 (by decide) L HL).mono ?_
    rintro e w4 ⟨rfl, hb4⟩
    have hbw4 : Below w.heap.size w w4 := hb3.trans (hb4.mono hb3.size)
    clear f3 q3 R1 hb4
    go_wp2_with fail
    refine (ReadK_any L w4 (HE.out.out hbw4) hlen 1 1 false [1] 1 m 0 0 0 HBK.out 1 rfl).mono ?_
    rintro e w5 ⟨A5, c5, rfl, hc5, _, hb5⟩
    have hbw5 : Below w.heap.size w w5 := hbw4.trans (hb5.mono hbw4.size)
    clear hb5
    have q5 : (w5.alloc (.cells #[.int .i64 1, .int .i64 1, .bool false, .slice A5 1 c5, .int .i64 1, .int .i64 m, .int .i64 0] 25)).heap[w5.heap.size]? = some (.cells #[.int .i64 1, .int .i64 1, .bool false, .slice A5 1 c5, .int .i64 1, .int .i64 m, .int .i64 0] 25 (0, 0)) := heap_alloc_new w5 _
    have hbw6 : Below w.heap.size w (w5.alloc (.cells #[.int .i64 1, .int .i64 1, .bool false, .slice A5 1 c5, .int .i64 1, .int .i64 m, .int .i64 0] 25)) := hbw5.alloc hbw5.size _
    have hs6 : w5.heap.size < (w5.alloc (.cells #[.int .i64 1, .int .i64 1, .bool false, .slice A5 1 c5, .int .i64 1, .int .i64 m, .int .i64 0] 25)).heap.size := by simp
    go_upto_region 10 with fail
    obtain ⟨h5, hh5⟩ : ∃ h5, h5 = w5.heap.size := ⟨_, rfl⟩
    obtain ⟨w6, hw6⟩ : ∃ w6, w6 = w5.alloc (.cells #[.int .i64 1, .int .i64 1, .bool false, .slice A5 1 c5, .int .i64 1, .int .i64 m, .int .i64 0] 25) := ⟨_, rfl⟩
    rw [← hw6] at q5 hbw6 hs6 ⊢
    rw [← hh5] at q5 hs6 ⊢
    clear hw6 hh5 hbw5
    obtain ⟨d, D⟩ : ∃ d, Hid (d = bs (Lib.itoa m)) := ⟨_, rfl⟩
    obtain ⟨t1, T1, r1⟩ := cat_of (a := ⟨#[116, 105, 109, 101, 111, 117, 116, 32, 48]⟩) (la := [116, 105, 109, 101, 111, 117, 116, 32, 48]) rfl D (by simp; omega)
    go_wp2_with fail
    refine (Digits_pos m w6 (by have := HM.out; omega) hm1).mono ?_
    rintro e w7 ⟨rfl, hb7⟩
    rw [← D.out]
    have hbw7 : Below w.heap.size w w7 := hbw6.trans (hb7.mono hbw6.size)
    have q7 := (hb7.block h5 hs6).trans q5
    have hs7 : h5 < w7.heap.size := Nat.lt_of_lt_of_le hs6 hb7.size
    clear hb7 q5 hbw6 hs6
    have HN1 := Lib.hid (ReadK_any ([116, 105, 109, 101, 111, 117, 116, 32, 48] ++ Lib.itoa m) w7 (HE.out.out hbw7) (by simp; omega) 0 0 false [] 0 0 0 11 1 HN0.out 0 rfl)
    rw [← T1.out] at HN1
    go_wp2_with fail
    refine HN1.out.mono ?_
    rintro e w8 ⟨A8, c8, rfl, _, _, hb8⟩
    have hbw9 : Below w.heap.size w (w8.alloc (.cells #[.int .i64 0, .int .i64 0, .bool false, .slice A8 0 c8, .int .i64 0, .int .i64 0, .int .i64 0] 25)) := (hbw7.trans (hb8.mono hbw7.size)).alloc (Nat.le_trans hbw7.size hb8.size) _
    have q9 : (w8.alloc (.cells #[.int .i64 0, .int .i64 0, .bool false, .slice A8 0 c8, .int .i64 0, .int .i64 0, .int .i64 0] 25)).heap[h5]? = some (.cells #[.int .i64 1, .int .i64 1, .bool false, .slice A5 1 c5, .int .i64 1, .int .i64 m, .int .i64 0] 25 (0, 0)) := by
      rw [Below.heap_alloc w8 _ _ (Nat.lt_of_lt_of_le hs7 hb8.size), hb8.block _ hs7]; exact q7
    clear hb8 q7 hs7
    go_upto_region 11 with fail
    obtain ⟨w9, hw9⟩ : ∃ w9, w9 = w8.alloc (.cells #[.int .i64 0, .int .i64 0, .bool false, .slice A8 0 c8, .int .i64 0, .int .i64 0, .int .i64 0] 25) := ⟨_, rfl⟩
    rw [← hw9] at q9 hbw9 ⊢
    clear hw9 hbw7
    have hs9 : h5 < w9.heap.size := (Array.getElem?_eq_some_iff.1 q9).1
    go_wp2_with fail
    refine (ReadK_any [116, 105, 109, 101, 111, 117, 116, 32, 57, 50, 50, 51, 51, 55, 50, 48, 51, 54, 56, 53, 52, 55, 55, 53, 56, 48, 56] w9 (HE.out.out hbw9) (by decide) 0 0 false [] 0 0 0 33 1 nm_lit1 0 rfl).mono ?_
    rintro e w10 ⟨A10, c10, rfl, _, _, hb10⟩
    have hbw11 : Below w.heap.size w (w10.alloc (.cells #[.int .i64 0, .int .i64 0, .bool false, .slice A10 0 c10, .int .i64 0, .int .i64 0, .int .i64 0] 25)) := (hbw9.trans (hb10.mono hbw9.size)).alloc (Nat.le_trans hbw9.size hb10.size) _
    have q11 : (w10.alloc (.cells #[.int .i64 0, .int .i64 0, .bool false, .slice A10 0 c10, .int .i64 0, .int .i64 0, .int .i64 0] 25)).heap[h5]? = some (.cells #[.int .i64 1, .int .i64 1, .bool false, .slice A5 1 c5, .int .i64 1, .int .i64 m, .int .i64 0] 25 (0, 0)) := by
      rw [Below.heap_alloc w10 _ _ (Nat.lt_of_lt_of_le hs9 hb10.size), hb10.block _ hs9]; exact q9
    clear hb10 q9 hs9
    go_upto_region 12 with fail
    obtain ⟨w11, hw11⟩ : ∃ w11, w11 = w10.alloc (.cells #[.int .i64 0, .int .i64 0, .bool false, .slice A10 0 c10, .int .i64 0, .int .i64 0, .int .i64 0] 25) := ⟨_, rfl⟩
    rw [← hw11] at q11 hbw11 ⊢
    clear hw11 hbw9
    have hs11 : h5 < w11.heap.size := (Array.getElem?_eq_some_iff.1 q11).1
    go_wp2_with fail
    refine (ReadK_any [116, 105, 109, 101, 111, 117, 116, 32, 57, 50, 50, 51, 51, 55, 50, 48, 51, 54, 56, 53, 52, 55, 55, 53, 56, 48, 55, 48] w11 (HE.out.out hbw11) (by decide) 0 0 false [] 0 0 0 33 1 nm_lit2 0 rfl).mono ?_
    rintro e w12 ⟨A12, c12, rfl, _, _, hb12⟩
    have hbw13 : Below w.heap.size w (w12.alloc (.cells #[.int .i64 0, .int .i64 0, .bool false, .slice A12 0 c12, .int .i64 0, .int .i64 0, .int .i64 0] 25)) := (hbw11.trans (hb12.mono hbw11.size)).alloc (Nat.le_trans hbw11.size hb12.size) _
    have hs12 : h5 < w12.heap.size := Nat.lt_of_lt_of_le hs11 hb12.size
    have f12 := fun i => cell_of_row w12 h5 i _ _ _ ((hb12.block _ hs11).trans q11)
    clear hb12 q11 hs11
    go_wp2
    go_ret
    exact ⟨rfl, hbw13⟩
end Go.Proofs.YtmmmepmjmofbjaaDoor
