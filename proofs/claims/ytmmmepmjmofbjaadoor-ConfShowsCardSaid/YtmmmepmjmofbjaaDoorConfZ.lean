/- The law ConfShows returns true. -/
import Derived.Test.YtmmmepmjmofbjaaDoorProg
import Derived.Test.YtmmmepmjmofbjaaDoorInf
import Derived.Test.YtmmmepmjmofbjaaDoorConfG
import Derived.Test.YtmmmepmjmofbjaaDoorConfU
import Derived.Test.YtmmmepmjmofbjaaDoorConfW
import Derived.Test.YtmmmepmjmofbjaaDoorConfX
import Derived.Test.YtmmmepmjmofbjaaDoorConfY
import Derived.Deep.RegionHeld3
import Derived.Deep.DrawnRows
set_option linter.unusedVariables false
namespace Go.Proofs.YtmmmepmjmofbjaaDoor
open Go Go.RowKit

set_option maxRecDepth 100000 in
set_option maxHeartbeats 3200000 in
theorem ConfShows_any (c : Cf) (A : Option Addr) (cap : Nat) (w : World) (hE : Env w) (hR : Reads w w.heap.size 1 A c.we.length (intsV c.we)) (hl : c.we.length ≤ 9223372036854775807) (ht : c.ti ≤ 9223372036854775807) (hp : c.pa ≤ 9223372036854775807) :
    Calls Tryd.prog 4 #[c.v A cap] w fun e w' => e = .returned (.bool true) ∧ Below w.heap.size w w' := by
  have HE := Lib.hid hE
  have HR := Lib.hid hR
  clear hE hR
  obtain ⟨so, ro, ol, we, qu, ti, pa⟩ := c
  obtain ⟨n, hn⟩ : ∃ n, n = we.length := ⟨_, rfl⟩
  have e0 : Cf.v ⟨so, ro, ol, we, qu, ti, pa⟩ A cap = cfv so ro ol A n cap qu ti pa := by rw [hn]
  simp only at HR hl ht hp
  rw [e0]
  rw [← hn] at HR hl
  have HN := Lib.hid hn
  clear hn e0
  go_enter Tryd.func4, Tryd.ntmps4
  go_wp2_with fail
  refine (awake_any _ (HE.out.out (by repeat (first | (with_reducible assumption) | (with_reducible exact Below.refl _ _) | (with_reducible refine Below.drewN ?_ _) | (with_reducible refine Below.drew ?_) | (with_reducible refine Below.setCell ?_ (by first | omega | (simp; done) | (simp; omega) | (simp [World.setCell]; done) | (simp [World.setCell]; omega)) _) | (with_reducible refine Below.alloc ?_ (by first | omega | (simp; done) | (simp; omega) | (simp [World.setCell]; done) | (simp [World.setCell]; omega)) _))))).mono ?_
  rintro e w1 ⟨rfl, hb1⟩
  have q0 := (hb1.block w.heap.size (by simp)).trans (heap_alloc_new w _)
  have hs1 : w.heap.size + 1 ≤ w1.heap.size := by simpa using hb1.size
  have hbw1 : Below w.heap.size w w1 := Below.trans ((Below.refl _ _).alloc (Nat.le_refl _) _) (hb1.mono (by simp))
  clear hb1
  have f1 := fun i => cell_of_row w1 w.heap.size i _ _ _ q0
  by_cases hlong : 40 < n
  · go_wp2
    go_ret
    exact ⟨rfl, hbw1⟩
  go_wp2_with fail
  refine (plain_any so ro ol A n cap qu ti pa _).mono ?_
  rintro e w2 ⟨rfl, hb2⟩
  have hs2 := hb2.size
  have q2 : (w2.alloc (.cells #[.int .i64 so, .int .i64 ro, .bool ol, .slice A n cap, .int .i64 qu, .int .i64 ti, .int .i64 pa] 29)).heap[w.heap.size]? = some (.cells #[.int .i64 so, .int .i64 ro, .bool ol, .slice A n cap, .int .i64 qu, .int .i64 ti, .int .i64 pa] 25 (0, 0)) := by
    rw [Below.heap_alloc w2 _ _ (by omega), hb2.block _ (by omega)]; exact q0
  have q4 : (w2.alloc (.cells #[.int .i64 so, .int .i64 ro, .bool ol, .slice A n cap, .int .i64 qu, .int .i64 ti, .int .i64 pa] 29)).heap[w2.heap.size]? = some (.cells #[.int .i64 so, .int .i64 ro, .bool ol, .slice A n cap, .int .i64 qu, .int .i64 ti, .int .i64 pa] 29 (0, 0)) := heap_alloc_new w2 _
  have hbw6 : Hid (Below w.heap.size w (w2.alloc (.cells #[.int .i64 so, .int .i64 ro, .bool ol, .slice A n cap, .int .i64 qu, .int .i64 ti, .int .i64 pa] 29))) := Below.trans (hbw1.trans (hb2.mono (by omega))) ((Below.refl _ _).alloc (by omega) _)
  obtain ⟨ck, hck⟩ : ∃ ck, ck = checkE ⟨so, ro, ol, we, qu, ti, pa⟩ := ⟨_, rfl⟩
  obtain ⟨S, hS⟩ : ∃ S, S = bs (showS ⟨so, ro, ol, we, qu, ti, pa⟩) := ⟨_, rfl⟩
  have HCK := Lib.hid hck
  have HSH := Lib.hid hS
  have e1 : (ck == ck) = true := by simp
  have e2 : (S.toList == S.toList) = true := by simp
  clear hck hS f1 q0
  go_wp2_with fail
  obtain ⟨h2, hh2⟩ : ∃ h2, h2 = w.heap.size := ⟨_, rfl⟩
  obtain ⟨h4, hh4⟩ : ∃ h4, h4 = w2.heap.size := ⟨_, rfl⟩
  obtain ⟨w6, hw6⟩ : ∃ w6, w6 = w2.alloc (.cells #[.int .i64 so, .int .i64 ro, .bool ol, .slice A n cap, .int .i64 qu, .int .i64 ti, .int .i64 pa] 29) := ⟨_, rfl⟩
  rw [← hw6] at q2 q4 hbw6 ⊢
  rw [← hh2] at q2 ⊢
  rw [← hh4] at q4 ⊢
  have l2 : h2 < w6.heap.size := (Array.getElem?_eq_some_iff.1 q2).1
  have l4 : h4 < w6.heap.size := (Array.getElem?_eq_some_iff.1 q4).1
  have HS : Hid (∀ V, Below w6.heap.size w6 V → (V.cell? ⟨h2, 0, none⟩ = some (.int .i64 so) ∧ V.cell? ⟨h2, 1, none⟩ = some (.int .i64 ro) ∧ V.cell? ⟨h2, 2, none⟩ = some (.bool ol) ∧ V.cell? ⟨h2, 3, none⟩ = some (.slice A n cap) ∧ V.cell? ⟨h2, 4, none⟩ = some (.int .i64 qu) ∧ V.cell? ⟨h2, 5, none⟩ = some (.int .i64 ti) ∧ V.cell? ⟨h2, 6, none⟩ = some (.int .i64 pa)) ∧ (V.cell? ⟨h4, 0, none⟩ = some (.int .i64 so) ∧ V.cell? ⟨h4, 1, none⟩ = some (.int .i64 ro) ∧ V.cell? ⟨h4, 2, none⟩ = some (.bool ol) ∧ V.cell? ⟨h4, 3, none⟩ = some (.slice A n cap) ∧ V.cell? ⟨h4, 4, none⟩ = some (.int .i64 qu) ∧ V.cell? ⟨h4, 5, none⟩ = some (.int .i64 ti) ∧ V.cell? ⟨h4, 6, none⟩ = some (.int .i64 pa))) := by
    intro V hV
    have c2 := fun i => (hV.cell (p := ⟨h2, i, none⟩) l2).trans (cell_of_row w6 h2 i _ _ _ q2)
    have c4 := fun i => (hV.cell (p := ⟨h4, i, none⟩) l4).trans (cell_of_row w6 h4 i _ _ _ q4)
    exact ⟨⟨c2 0, c2 1, c2 2, c2 3, c2 4, c2 5, c2 6⟩, ⟨c4 0, c4 1, c4 2, c4 3, c4 4, c4 5, c4 6⟩⟩
  have J6 : Hid (Below w6.heap.size w6 w6.drew) := (Below.refl _ _).drew
  have hw : ∀ V, Below w6.heap.size w6 V → Below w.heap.size w V := fun V hV => hbw6.out.trans (hV.mono hbw6.out.size)
  have K1 : Hid (∀ V, Below w6.heap.size w6 V → Calls Tryd.prog 13 #[cfv so ro ol A n cap qu ti pa] V fun e w' => e = .returned (.int .i64 ck) ∧ Below V.heap.size V w') := by
    intro V hV
    have := ConfCheck_any ⟨so, ro, ol, we, qu, ti, pa⟩ A cap V (by have := HN.out; show we.length ≤ _; omega) (by have h := HR.out.out (hw V hV); rw [HN.out] at h; exact h) ht hp
    rw [← HCK.out] at this
    simp only [Cf.v] at this
    rw [← HN.out] at this
    exact this
  have K2 : Hid (∀ V, Below w6.heap.size w6 V → Calls Tryd.prog 14 #[cfv so ro ol A n cap qu ti pa] V fun e w' => e = .returned (.int .i64 ck) ∧ Below V.heap.size V w') := by
    intro V hV
    have := Check_any ⟨so, ro, ol, we, qu, ti, pa⟩ A cap V (by have := HN.out; show we.length ≤ _; omega) (by have h := HR.out.out (hw V hV); rw [HN.out] at h; exact h)
    rw [← HCK.out] at this
    simp only [Cf.v] at this
    rw [← HN.out] at this
    exact this
  have K3 : Hid (∀ V, Below w6.heap.size w6 V → Calls Tryd.prog 15 #[cfv so ro ol A n cap qu ti pa] V fun e w' => e = .returned (.string S) ∧ Below V.heap.size V w') := by
    intro V hV
    have := ConfShow_any ⟨so, ro, ol, we, qu, ti, pa⟩ A cap V (HE.out.out (hw V hV)) (by have := HN.out; show we.length ≤ _; omega) (by have h := HR.out.out (hw V hV); rw [HN.out] at h; exact h) ht hp
    rw [← HSH.out] at this
    simp only [Cf.v] at this
    rw [← HN.out] at this
    exact this
  have K4 : Hid (∀ V, Below w6.heap.size w6 V → Calls Tryd.prog 16 #[cfv so ro ol A n cap qu ti pa] V fun e w' => e = .returned (.string S) ∧ Below V.heap.size V w') := by
    intro V hV
    have := RefShow_any ⟨so, ro, ol, we, qu, ti, pa⟩ A cap V (by have := HN.out; show we.length ≤ _; omega) (by have h := HR.out.out (hw V hV); rw [HN.out] at h; exact h) ht hp
    rw [← HSH.out] at this
    simp only [Cf.v] at this
    rw [← HN.out] at this
    exact this
  clear q2 q4 hw6 hh2 hh4 hbw1 hb2 hs1 hs2 hw
  go_region_held3 (fun w' => (w'.cell? ⟨h2, 0, none⟩ = some (.int .i64 so) ∧ w'.cell? ⟨h2, 1, none⟩ = some (.int .i64 ro) ∧ w'.cell? ⟨h2, 2, none⟩ = some (.bool ol) ∧ w'.cell? ⟨h2, 3, none⟩ = some (.slice A n cap) ∧ w'.cell? ⟨h2, 4, none⟩ = some (.int .i64 qu) ∧ w'.cell? ⟨h2, 5, none⟩ = some (.int .i64 ti) ∧ w'.cell? ⟨h2, 6, none⟩ = some (.int .i64 pa)) ∧ (w'.cell? ⟨h4, 0, none⟩ = some (.int .i64 so) ∧ w'.cell? ⟨h4, 1, none⟩ = some (.int .i64 ro) ∧ w'.cell? ⟨h4, 2, none⟩ = some (.bool ol) ∧ w'.cell? ⟨h4, 3, none⟩ = some (.slice A n cap) ∧ w'.cell? ⟨h4, 4, none⟩ = some (.int .i64 qu) ∧ w'.cell? ⟨h4, 5, none⟩ = some (.int .i64 ti) ∧ w'.cell? ⟨h4, 6, none⟩ = some (.int .i64 pa)))
    (first | exact HS.out _ J6.out | exact HS.out _ I7.out | exact HS.out _ I8.out | exact HS.out _ I9.out | exact HS.out _ I10.out)
    (first
      | (go_at_call 13; ((with_reducible refine (upto_at J6 (K1.out _ J6.out)).mono ?_); rintro e w7 ⟨rfl, I7⟩))
      | (go_at_call 14; ((with_reducible refine (upto_at I7 (K2.out _ I7.out)).mono ?_); rintro e w8 ⟨rfl, I8⟩))
      | (go_at_call 15; ((with_reducible refine (upto_at I8 (K3.out _ I8.out)).mono ?_); rintro e w9 ⟨rfl, I9⟩))
      | (go_at_call 16; ((with_reducible refine (upto_at I9 (K4.out _ I9.out)).mono ?_); rintro e w10 ⟨rfl, I10⟩)))
  go_wp2
  go_ret
  exact ⟨rfl, hbw6.out.trans (I10.out.mono hbw6.out.size)⟩
end Go.Proofs.YtmmmepmjmofbjaaDoor
