/- lookoutlaw17.awake: the document's examples. -/
import Derived.Test.YtmmmepmjmofbjaaDoorProg
import Derived.Test.YtmmmepmjmofbjaaDoorInf
import Derived.Test.YtmmmepmjmofbjaaDoorConfQ
import Derived.Test.YtmmmepmjmofbjaaDoorConfU
import Derived.Deep.RegionHeld3
import Derived.Deep.DrawnRows
set_option linter.unusedVariables false
namespace Go.Proofs.YtmmmepmjmofbjaaDoor
open Go Go.RowKit

theorem aw1 : readS [115, 111, 117, 114, 99, 101, 115, 32, 50, 10, 116, 105, 109, 101, 111, 117, 116, 32, 49, 48] = (⟨2, 8, false, [1, 1], 4, 10, 0⟩, 0, 0) := by kernel_rfl
theorem aw2 : readS [115, 111, 117, 114, 99, 101, 115, 32, 57] = (Cf.zero, 33, 1) := by kernel_rfl
theorem aw3 : readS [10, 116, 105, 109, 101, 111, 117, 116, 32, 116, 101, 110] = (Cf.zero, 11, 2) := by kernel_rfl
theorem ReadL_any (l : List UInt8) (w : World) (hE : Env w) (hs : l.length ≤ 1000000) (r : Cf × Int × Int) (hr : readS l = r) :
    Calls Tryd.prog 9 #[.string (bs l)] w (ReadRet w r) := by
  have := Read_any (bs l) w hE (by rw [bs_size]; exact hs)
  rwa [bs_data, hr] at this
/-- a text read, its answer known -/
theorem ReadK_any (l : List UInt8) (w : World) (hE : Env w) (hs : l.length ≤ 1000000) (so ro : Int) (ol : Bool) (we : List Int) (qu ti pa er k : Int) (hr : readS l = (⟨so, ro, ol, we, qu, ti, pa⟩, er, k)) (n : Nat) (hn : n = we.length) :
    Calls Tryd.prog 9 #[.string (bs l)] w fun e w' => ∃ A cap, e = .returned (.tuple #[cfv so ro ol A n cap qu ti pa, .int .i64 er, .int .i64 k]) ∧ n ≤ cap ∧ RdP w' (NewP w.heap.size w') 1 A n (intsV we) ∧ Below w.heap.size w w' := by
  subst hn
  exact ReadL_any l w hE hs _ hr
theorem show_ne {c : Cf} (h : checkE c = 0) : (showS c).isEmpty = false := by
  unfold showS
  rw [if_pos h]
  have e : linesTo c 7 = lineOf c 0 ++ (lineOf c 1 ++ (lineOf c 2 ++ (lineOf c 3 ++ (lineOf c 4 ++ (lineOf c 5 ++ lineOf c 6))))) := by simp [linesTo, List.range_succ]
  rw [e]
  simp [lineOf, words7]
theorem aw_check : checkE ⟨2, 8, false, [1, 1], 4, 10, 0⟩ = 0 := by kernel_rfl

set_option maxRecDepth 100000 in
set_option maxHeartbeats 3200000 in
theorem awake_any (w : World) (hE : Env w) : Calls Tryd.prog 8 #[] w fun e w' => e = .returned (.bool true) ∧ Below w.heap.size w w' := by
  have HE := Lib.hid hE
  clear hE
  go_enter Tryd.func8, Tryd.ntmps8
  go_wp2_with fail
  refine (ReadK_any [115, 111, 117, 114, 99, 101, 115, 32, 50, 10, 116, 105, 109, 101, 111, 117, 116, 32, 49, 48] w HE.out (by decide) _ _ _ _ _ _ _ _ _ aw1 2 rfl).mono ?_
  rintro e w1 ⟨A1, c1, rfl, hc1, hr1, hb1⟩
  obtain ⟨ad, rfl, had, hac⟩ := hr1.2 (by decide)
  have hE1 := Lib.hid (HE.out.out hb1)
  have g1 : w1.cell? ⟨ad.block, ad.off + 1, none⟩ = some (.int .i64 1) := hac 1 _ rfl
  have HA1 := Lib.hid had
  have HB1 := Lib.hid hb1
  have HR1 := Lib.hid hr1
  have hs1 := hb1.size
  clear hac had hr1
  go_wp2_with fail
  refine (ReadK_any [115, 111, 117, 114, 99, 101, 115, 32, 57] _ (hE1.out.out (by repeat (first | (with_reducible assumption) | (with_reducible exact Below.refl _ _) | (with_reducible refine Below.drewN ?_ _) | (with_reducible refine Below.drew ?_) | (with_reducible refine Below.setCell ?_ (by first | omega | (simp; done) | (simp; omega) | (simp [World.setCell]; done) | (simp [World.setCell]; omega)) _) | (with_reducible refine Below.alloc ?_ (by first | omega | (simp; done) | (simp; omega) | (simp [World.setCell]; done) | (simp [World.setCell]; omega)) _)))) (by decide) _ _ _ _ _ _ _ _ _ aw2 0 rfl).mono ?_
  rintro e w2 ⟨A2, c2, rfl, hc2, _, hb2⟩
  have hs2 : w1.heap.size + 1 ≤ w2.heap.size := by simpa using hb2.size
  have r1 := (hb2.block w1.heap.size (by simp)).trans (heap_alloc_new w1 _)
  have g2 : w2.cell? ⟨ad.block, ad.off + 1, none⟩ = some (.int .i64 1) := (hb2.cell (by have := HA1.out.2; simp; omega)).trans ((World.cell?_alloc_lt _ _ _ (by exact HA1.out.2)).trans g1)
  have hb12 : Below w1.heap.size w1 w2 := Below.trans ((Below.refl _ _).alloc (Nat.le_refl _) _) (hb2.mono (by simp))
  clear g1 hb2
  go_wp2_with fail
  refine (ReadK_any [10, 116, 105, 109, 101, 111, 117, 116, 32, 116, 101, 110] _ ((hE1.out.out hb12).out (by repeat (first | (with_reducible assumption) | (with_reducible exact Below.refl _ _) | (with_reducible refine Below.drewN ?_ _) | (with_reducible refine Below.drew ?_) | (with_reducible refine Below.setCell ?_ (by first | omega | (simp; done) | (simp; omega) | (simp [World.setCell]; done) | (simp [World.setCell]; omega)) _) | (with_reducible refine Below.alloc ?_ (by first | omega | (simp; done) | (simp; omega) | (simp [World.setCell]; done) | (simp [World.setCell]; omega)) _)))) (by decide) _ _ _ _ _ _ _ _ _ aw3 0 rfl).mono ?_
  rintro e w3 ⟨A3, c3, rfl, hc3, _, hb3⟩
  have hs3 : w2.heap.size + 1 ≤ w3.heap.size := by simpa using hb3.size
  have r2 := (hb3.block w1.heap.size (by simp; omega)).trans ((Below.heap_alloc w2 _ _ (by omega)).trans r1)
  have g3 : w3.cell? ⟨ad.block, ad.off + 1, none⟩ = some (.int .i64 1) := (hb3.cell (by have := HA1.out.2; simp; omega)).trans ((World.cell?_alloc_lt _ _ _ (by have := HA1.out.2; show ad.block < _; omega)).trans g2)
  have hb13 : Below w1.heap.size w1 w3 := hb12.trans (Below.trans ((Below.refl _ _).alloc (by omega) _) (hb3.mono (by simp; omega)))
  clear g2 hb3 r1
  have f1 := fun i => cell_of_row w3 w1.heap.size i _ _ _ r2
  have hl1 : w1.heap.size < w3.heap.size := by omega
  have hl2 : ad.block < w3.heap.size := by have := HA1.out.2; omega
  have g4 : ∀ o, (w3.alloc o).cell? ⟨ad.block, ad.off + 1, none⟩ = some (.int .i64 1) := fun o => (World.cell?_alloc_lt _ _ _ (by exact hl2)).trans g3
  have HR3 : Hid (∀ V, Below w3.heap.size w3 V → Reads V V.heap.size 1 (some ad) 2 (intsV [1, 1])) := by
    intro V hV
    exact (HR1.out.toReads (B := w1.heap.size) fun _ h => h.2).out (hb13.trans (hV.mono (by omega)))
  have HE3 : Hid (∀ V, Below w3.heap.size w3 V → Env V) := fun V hV => hE1.out.out (hb13.trans (hV.mono (by omega)))
  go_wp2_with fail
  refine (ConfCheck_any ⟨2, 8, false, [1, 1], 4, 10, 0⟩ (some ad) c1 _ (by decide) (HR3.out _ (by repeat (first | (with_reducible assumption) | (with_reducible exact Below.refl _ _) | (with_reducible refine Below.drewN ?_ _) | (with_reducible refine Below.drew ?_) | (with_reducible refine Below.setCell ?_ (by first | omega | (simp; done) | (simp; omega) | (simp [World.setCell]; done) | (simp [World.setCell]; omega)) _) | (with_reducible refine Below.alloc ?_ (by first | omega | (simp; done) | (simp; omega) | (simp [World.setCell]; done) | (simp [World.setCell]; omega)) _)))) (by decide) (by decide)).mono ?_
  rw [aw_check]
  rintro e w4 ⟨rfl, hb4⟩
  have hs4 : w3.heap.size + 1 ≤ w4.heap.size := by simpa using hb4.size
  have r3 := (hb4.block w1.heap.size (by simp; omega)).trans ((Below.heap_alloc w3 _ _ (by omega)).trans r2)
  have hb34 : Below w3.heap.size w3 w4 := Below.trans ((Below.refl _ _).alloc (Nat.le_refl _) _) (hb4.mono (by simp))
  clear f1 g3 g4 r2 hb4
  have f1 := fun i => cell_of_row w4 w1.heap.size i _ _ _ r3
  have HSH : Hid (Calls Tryd.prog 15 #[cfv 2 8 false (some ad) 2 c1 4 10 0] w4 fun e w' => ∃ s : ByteArray, e = .returned (.string s) ∧ s.toList.isEmpty = false ∧ Below w4.heap.size w4 w') := by
    refine (ConfShow_any ⟨2, 8, false, [1, 1], 4, 10, 0⟩ (some ad) c1 w4 (HE3.out _ hb34) (by decide) (HR3.out _ hb34) (by decide) (by decide)).mono ?_
    rintro e w' ⟨rfl, hb⟩
    exact ⟨_, rfl, by rw [ByteArray.toList_eq, bs_data]; exact show_ne aw_check, hb⟩
  go_wp2_with fail
  refine HSH.out.mono ?_
  rintro e w5 ⟨s, rfl, hne, hb5⟩
  have hbw : Below w.heap.size w w5 := HB1.out.trans ((hb13.trans ((hb34.mono (by omega)).trans (hb5.mono (by omega)))).mono hs1)
  go_wp2
  go_ret
  exact ⟨rfl, hbw⟩
end Go.Proofs.YtmmmepmjmofbjaaDoor
