/- The law ConfBack returns true. -/
import Derived.Test.YtmmmepmjmofbjaaDoorProg
import Derived.Test.YtmmmepmjmofbjaaDoorInf
import Derived.Test.YtmmmepmjmofbjaaDoorConfX
import Derived.Test.YtmmmepmjmofbjaaDoorConfY
import Derived.Test.YtmmmepmjmofbjaaDoorPlainR
import Derived.Test.YtmmmepmjmofbjaaDoorPlainT
import Derived.Deep.RegionHeld3
import Derived.Deep.DrawnRows
import Derived.Deep.DeepCutAuto
set_option linter.unusedVariables false
namespace Go.Proofs.YtmmmepmjmofbjaaDoor
open Go Go.RowKit

/-- a configuration's calls, its fields apart -/
theorem check_at (so ro : Int) (ol : Bool) (we : List Int) (qu ti pa : Int) (n : Nat) (hn : Hid (n = we.length)) (A : Option Addr) (cap : Nat) (V : World) (hl : n ≤ 1000) (hR : Reads V V.heap.size 1 A n (intsV we)) (ht : ti ≤ 9223372036854775807) (hp : pa ≤ 9223372036854775807) (ck : Int) (hck : Hid (ck = checkE ⟨so, ro, ol, we, qu, ti, pa⟩)) :
    Calls Tryd.prog 13 #[cfv so ro ol A n cap qu ti pa] V fun e w' => e = .returned (.int .i64 ck) ∧ Below V.heap.size V w' := by
  rw [hck.out]
  have hn := hn.out
  subst hn
  exact ConfCheck_any ⟨so, ro, ol, we, qu, ti, pa⟩ A cap V (by show we.length ≤ _; omega) hR ht hp
theorem show_at (so ro : Int) (ol : Bool) (we : List Int) (qu ti pa : Int) (n : Nat) (hn : Hid (n = we.length)) (A : Option Addr) (cap : Nat) (V : World) (hE : Env V) (hl : n ≤ 1000) (hR : Reads V V.heap.size 1 A n (intsV we)) (ht : ti ≤ 9223372036854775807) (hp : pa ≤ 9223372036854775807) (L : List UInt8) (hL : Hid (L = showS ⟨so, ro, ol, we, qu, ti, pa⟩)) :
    Calls Tryd.prog 15 #[cfv so ro ol A n cap qu ti pa] V fun e w' => e = .returned (.string (bs L)) ∧ Below V.heap.size V w' := by
  rw [hL.out]
  have hn := hn.out
  subst hn
  exact ConfShow_any ⟨so, ro, ol, we, qu, ti, pa⟩ A cap V hE hl hR ht hp
theorem same_at (so ro : Int) (ol : Bool) (we : List Int) (qu ti pa : Int) (n : Nat) (hn : Hid (n = we.length)) (A A' : Option Addr) (cap cap' : Nat) (V : World) (hl : n ≤ 1000) (hR : Reads V V.heap.size 1 A n (intsV we)) (hR' : Reads V V.heap.size 1 A' n (intsV we)) :
    Calls Tryd.prog 11 #[cfv so ro ol A n cap qu ti pa, cfv so ro ol A' n cap' qu ti pa] V fun e w' => e = .returned (.bool true) ∧ Below V.heap.size V w' :=
  same_self ⟨so, ro, ol, we, qu, ti, pa⟩ A A' cap cap' n hn (by have := hn.out; show we.length ≤ _; omega) V hR hR'
theorem show_len {c : Cf} (h : checkE c = 0) (ht : c.ti ≤ 9223372036854775807) (hp : c.pa ≤ 9223372036854775807) : (showS c).length ≤ 1000000 := by
  have := show_short h ht hp
  unfold showS
  rw [if_pos h]; omega
/-- two configurations in two blocks: what a region reads of them -/
theorem two_cells {w6 V : World} {h2 h4 : Nat} {r2 r4 : Array Value} {t2 t4 : TypeId} (q2 : w6.heap[h2]? = some (.cells r2 t2 (0, 0))) (q4 : w6.heap[h4]? = some (.cells r4 t4 (0, 0))) (hV : Below w6.heap.size w6 V) :
    (∀ i, V.cell? ⟨h2, i, none⟩ = r2[i]?) ∧ (∀ i, V.cell? ⟨h4, i, none⟩ = r4[i]?) :=
  ⟨fun i => (hV.cell (p := ⟨h2, i, none⟩) (Array.getElem?_eq_some_iff.1 q2).1).trans (cell_of_row w6 h2 i _ _ _ q2), fun i => (hV.cell (p := ⟨h4, i, none⟩) (Array.getElem?_eq_some_iff.1 q4).1).trans (cell_of_row w6 h4 i _ _ _ q4)⟩

set_option maxRecDepth 100000 in
set_option maxHeartbeats 6400000 in
theorem ConfBack_any (c : Cf) (A : Option Addr) (cap : Nat) (s : ByteArray) (w : World) (hE : Env w) (hR : Reads w w.heap.size 1 A c.we.length (intsV c.we)) (hl : c.we.length ≤ 9223372036854775807) (hs : s.size ≤ 9223372036854775807) (ht : c.ti ≤ 9223372036854775807) (hp : c.pa ≤ 9223372036854775807) :
    Calls Tryd.prog 5 #[c.v A cap, .string s] w fun e w' => e = .returned (.bool true) ∧ Below w.heap.size w w' := by
  have HE := Lib.hid hE
  have HR := Lib.hid hR
  clear hE hR
  obtain ⟨so, ro, ol, we, qu, ti, pa⟩ := c
  obtain ⟨n, hn⟩ : ∃ n, n = we.length := ⟨_, rfl⟩
  have e0 : Cf.v ⟨so, ro, ol, we, qu, ti, pa⟩ A cap = cfv so ro ol A n cap qu ti pa := by rw [hn]
  simp only at HR hl ht hp
  rw [e0]
  rw [← hn] at HR hl
  have HN := Lib.hid hn
  clear hn e0
  go_enter Tryd.func5, Tryd.ntmps5
  go_wp2_with fail
  refine (awake_any _ (HE.out.out (by repeat (first | (with_reducible assumption) | (with_reducible exact Below.refl _ _) | (with_reducible refine Below.drewN ?_ _) | (with_reducible refine Below.drew ?_) | (with_reducible refine Below.setCell ?_ (by first | omega | (simp; done) | (simp; omega) | (simp [World.setCell]; done) | (simp [World.setCell]; omega)) _) | (with_reducible refine Below.alloc ?_ (by first | omega | (simp; done) | (simp; omega) | (simp [World.setCell]; done) | (simp [World.setCell]; omega)) _))))).mono ?_
  rintro e w1 ⟨rfl, hb1⟩
  have q0 := (hb1.block w.heap.size (by simp)).trans (heap_alloc_new w _)
  have hs1 : w.heap.size + 1 ≤ w1.heap.size := by simpa using hb1.size
  have hbw1 : Below w.heap.size w w1 := Below.trans ((Below.refl _ _).alloc (Nat.le_refl _) _) (hb1.mono (by simp))
  clear hb1
  have f1 := fun i => cell_of_row w1 w.heap.size i _ _ _ q0
  by_cases hlong : 40 < n
  · have d1 : decide ((40 : Int) < (n : Int)) = true := by simp; omega
    go_wp2
    go_ret
    exact ⟨rfl, hbw1⟩
  by_cases hslong : 1000 < s.size
  · go_wp2
    go_ret
    exact ⟨rfl, hbw1⟩
  obtain ⟨ck, hck⟩ : ∃ ck, ck = checkE ⟨so, ro, ol, we, qu, ti, pa⟩ := ⟨_, rfl⟩
  have HCK := Lib.hid hck
  clear hck
  have K1 : Hid (∀ V, Below w.heap.size w V → Calls Tryd.prog 13 #[cfv so ro ol A n cap qu ti pa] V fun e w' => e = .returned (.int .i64 ck) ∧ Below V.heap.size V w') := fun V hV => check_at so ro ol we qu ti pa n HN A cap V (by omega) (HR.out.out hV) ht hp ck HCK
  go_upto_if 29 with (go_at_call 13; ((with_reducible refine (K1.out _ hbw1).mono ?_); rintro e w2 ⟨rfl, hb2⟩))
  have hbw2 : Below w.heap.size w w2 := hbw1.trans (hb2.mono (by omega))
  have q2 := (hb2.block w.heap.size (by omega)).trans q0
  have hs2 : w.heap.size < w2.heap.size := by have := hb2.size; omega
  clear f1 q0 hb2 hbw1
  go_cut [] (fun wx => Hid (Below w.heap.size w wx))
  case first =>
    have f1 := fun i => cell_of_row w2 w.heap.size i _ _ _ q2
    by_cases hck0 : ck = 0
    · subst hck0
      obtain ⟨L, hL⟩ : ∃ L, L = showS ⟨so, ro, ol, we, qu, ti, pa⟩ := ⟨_, rfl⟩
      have HL := Lib.hid hL
      have hlen := show_len HCK.out.symm ht hp
      rw [← hL] at hlen
      have hbk := back HCK.out.symm ht hp
      rw [← hL] at hbk
      have HBK := Lib.hid hbk
      clear hL hbk
      go_wp2_with fail
      refine (show_at so ro ol we qu ti pa n HN A cap w2 (HE.out.out hbw2) (by omega) (HR.out.out hbw2) ht hp L HL).mono ?_
      rintro e w3 ⟨rfl, hb3⟩
      have hbw3 : Below w.heap.size w w3 := hbw2.trans (hb3.mono (by omega))
      go_wp2_with fail
      refine (ReadK_any L w3 (HE.out.out hbw3) hlen so ro ol we qu ti pa 0 0 HBK.out n HN.out).mono ?_
      rintro e w4 ⟨A4, c4, rfl, hc4, hr4, hb4⟩
      have hs3 := hb3.size
      have hs4 := hb4.size
      have q4 : (w4.alloc (.cells #[.int .i64 so, .int .i64 ro, .bool ol, .slice A4 n c4, .int .i64 qu, .int .i64 ti, .int .i64 pa] 25)).heap[w.heap.size]? = some (.cells #[.int .i64 so, .int .i64 ro, .bool ol, .slice A n cap, .int .i64 qu, .int .i64 ti, .int .i64 pa] 25 (0, 0)) := by
        rw [Below.heap_alloc w4 _ _ (by omega), hb4.block _ (by omega), hb3.block _ (by omega)]; exact q2
      have q5 : (w4.alloc (.cells #[.int .i64 so, .int .i64 ro, .bool ol, .slice A4 n c4, .int .i64 qu, .int .i64 ti, .int .i64 pa] 25)).heap[w4.heap.size]? = some (.cells #[.int .i64 so, .int .i64 ro, .bool ol, .slice A4 n c4, .int .i64 qu, .int .i64 ti, .int .i64 pa] 25 (0, 0)) := heap_alloc_new w4 _
      have hbw6 : Hid (Below w.heap.size w (w4.alloc (.cells #[.int .i64 so, .int .i64 ro, .bool ol, .slice A4 n c4, .int .i64 qu, .int .i64 ti, .int .i64 pa] 25))) := Below.trans (hbw3.trans (hb4.mono (by omega))) ((Below.refl _ _).alloc (by omega) _)
      have R4 : Hid (Reads (w4.alloc (.cells #[.int .i64 so, .int .i64 ro, .bool ol, .slice A4 n c4, .int .i64 qu, .int .i64 ti, .int .i64 pa] 25)) (w4.alloc (.cells #[.int .i64 so, .int .i64 ro, .bool ol, .slice A4 n c4, .int .i64 qu, .int .i64 ti, .int .i64 pa] 25)).heap.size 1 A4 n (intsV we)) :=
        (hr4.toReads (B := w4.heap.size) fun _ h => h.2).out ((Below.refl _ _).alloc (Nat.le_refl _) _)
      clear f1 hb3 hb4 hr4 hc4
      go_wp2_with fail
      obtain ⟨h2, hh2⟩ : ∃ h2, h2 = w.heap.size := ⟨_, rfl⟩
      obtain ⟨h4, hh4⟩ : ∃ h4, h4 = w4.heap.size := ⟨_, rfl⟩
      obtain ⟨w6, hw6⟩ : ∃ w6, w6 = w4.alloc (.cells #[.int .i64 so, .int .i64 ro, .bool ol, .slice A4 n c4, .int .i64 qu, .int .i64 ti, .int .i64 pa] 25) := ⟨_, rfl⟩
      rw [← hw6] at q4 q5 R4 hbw6 ⊢
      rw [← hh2] at q4 ⊢
      rw [← hh4] at q5 ⊢
      have HS : Hid (∀ V, Below w6.heap.size w6 V → (V.cell? ⟨h2, 0, none⟩ = some (.int .i64 so) ∧ V.cell? ⟨h2, 1, none⟩ = some (.int .i64 ro) ∧ V.cell? ⟨h2, 2, none⟩ = some (.bool ol) ∧ V.cell? ⟨h2, 3, none⟩ = some (.slice A n cap) ∧ V.cell? ⟨h2, 4, none⟩ = some (.int .i64 qu) ∧ V.cell? ⟨h2, 5, none⟩ = some (.int .i64 ti) ∧ V.cell? ⟨h2, 6, none⟩ = some (.int .i64 pa)) ∧ (V.cell? ⟨h4, 0, none⟩ = some (.int .i64 so) ∧ V.cell? ⟨h4, 1, none⟩ = some (.int .i64 ro) ∧ V.cell? ⟨h4, 2, none⟩ = some (.bool ol) ∧ V.cell? ⟨h4, 3, none⟩ = some (.slice A4 n c4) ∧ V.cell? ⟨h4, 4, none⟩ = some (.int .i64 qu) ∧ V.cell? ⟨h4, 5, none⟩ = some (.int .i64 ti) ∧ V.cell? ⟨h4, 6, none⟩ = some (.int .i64 pa))) := by
        intro V hV
        obtain ⟨c2, c4⟩ := two_cells q4 q5 hV
        exact ⟨⟨c2 0, c2 1, c2 2, c2 3, c2 4, c2 5, c2 6⟩, ⟨c4 0, c4 1, c4 2, c4 3, c4 4, c4 5, c4 6⟩⟩
      have J6 : Hid (Below w6.heap.size w6 w6.drew) := (Below.refl _ _).drew
      have KS : Hid (∀ V, Below w6.heap.size w6 V → Calls Tryd.prog 11 #[cfv so ro ol A n cap qu ti pa, cfv so ro ol A4 n c4 qu ti pa] V fun e w' => e = .returned (.bool true) ∧ Below V.heap.size V w') :=
        fun V hV => same_at so ro ol we qu ti pa n HN A A4 cap c4 V (by omega) (HR.out.out (hbw6.out.trans (hV.mono hbw6.out.size))) (R4.out.out hV)
      have HH2 := Lib.hid hh2
      clear q2 q4 q5 hw6 hh2 hh4 hbw2 hbw3 hs1 hs2 hs3 hs4
      go_region_held3 (fun w' => (w'.cell? ⟨h2, 0, none⟩ = some (.int .i64 so) ∧ w'.cell? ⟨h2, 1, none⟩ = some (.int .i64 ro) ∧ w'.cell? ⟨h2, 2, none⟩ = some (.bool ol) ∧ w'.cell? ⟨h2, 3, none⟩ = some (.slice A n cap) ∧ w'.cell? ⟨h2, 4, none⟩ = some (.int .i64 qu) ∧ w'.cell? ⟨h2, 5, none⟩ = some (.int .i64 ti) ∧ w'.cell? ⟨h2, 6, none⟩ = some (.int .i64 pa)) ∧ (w'.cell? ⟨h4, 0, none⟩ = some (.int .i64 so) ∧ w'.cell? ⟨h4, 1, none⟩ = some (.int .i64 ro) ∧ w'.cell? ⟨h4, 2, none⟩ = some (.bool ol) ∧ w'.cell? ⟨h4, 3, none⟩ = some (.slice A4 n c4) ∧ w'.cell? ⟨h4, 4, none⟩ = some (.int .i64 qu) ∧ w'.cell? ⟨h4, 5, none⟩ = some (.int .i64 ti) ∧ w'.cell? ⟨h4, 6, none⟩ = some (.int .i64 pa)))
        (first | exact HS.out _ J6.out | exact HS.out _ I7.out | exact HS.out _ I8.out | exact HS.out _ I9.out)
        (first
          | (go_at_call 12; ((with_reducible refine (upto_at J6 (plain_any so ro ol A n cap qu ti pa _)).mono ?_); rintro e w7 ⟨rfl, I7⟩))
          | (go_at_call 12; ((with_reducible refine (upto_at I7 (plain_any so ro ol A4 n c4 qu ti pa _)).mono ?_); rintro e w8 ⟨rfl, I8⟩))
          | (go_at_call 11; ((with_reducible refine (upto_at I8 (KS.out _ I8.out)).mono ?_); rintro e w9 ⟨rfl, I9⟩)))
      go_wp2_with fail
      have hh2 := HH2.out
      subst hh2
      go_meet
      exact hbw6.out.trans (I9.out.mono hbw6.out.size)
    · have hck1 : (ck == 0) = false := by simp [hck0]
      clear hck0
      go_wp2_with fail
      go_meet
      exact hbw2
  case rest =>
    have hbwc := hcut
    clear q2 K1 HCK hbw2 hs2 hs1 ht hp HR
    have HRD := Read_any s wc (HE.out.out hbwc.out) (by omega)
    obtain ⟨r, hr⟩ : ∃ r, r = readS s.data.toList := ⟨_, rfl⟩
    rw [← hr] at HRD
    have HRR := Lib.hid hr
    have HRD := Lib.hid HRD
    have hxl := readS_len s.data.toList
    rw [← hr] at hxl
    clear hr hcut hl hlong
    clear HN ck
    obtain ⟨⟨so, ro, ol, we, qu, ti, pa⟩, er, kk⟩ := r
    obtain ⟨n, hn⟩ : ∃ n, n = we.length := ⟨_, rfl⟩
    have HN := Lib.hid hn
    simp only at hxl
    go_wp2_with fail
    refine HRD.out.mono ?_
    rintro e w3 ⟨A3, c3, rfl, hc3, hr3, hb3⟩
    simp only [Cf.v] at hc3 hr3 ⊢
    rw [← hn] at hc3 hr3 hxl ⊢
    clear hn
    have R3 : Hid (Reads (w3.alloc (.cells #[.int .i64 so, .int .i64 ro, .bool ol, .slice A3 n c3, .int .i64 qu, .int .i64 ti, .int .i64 pa] 25)) (w3.alloc (.cells #[.int .i64 so, .int .i64 ro, .bool ol, .slice A3 n c3, .int .i64 qu, .int .i64 ti, .int .i64 pa] 25)).heap.size 1 A3 n (intsV we)) :=
      (hr3.toReads (B := w3.heap.size) fun _ h => h.2).out ((Below.refl _ _).alloc (Nat.le_refl _) _)
    have hs3 := hb3.size
    have hbw4 : Hid (Below w.heap.size w (w3.alloc (.cells #[.int .i64 so, .int .i64 ro, .bool ol, .slice A3 n c3, .int .i64 qu, .int .i64 ti, .int .i64 pa] 25))) := Below.trans (hbwc.out.trans (hb3.mono hbwc.out.size)) ((Below.refl _ _).alloc (by have := hbwc.out.size; omega) _)
    have q3 : (w3.alloc (.cells #[.int .i64 so, .int .i64 ro, .bool ol, .slice A3 n c3, .int .i64 qu, .int .i64 ti, .int .i64 pa] 25)).heap[w3.heap.size]? = some (.cells #[.int .i64 so, .int .i64 ro, .bool ol, .slice A3 n c3, .int .i64 qu, .int .i64 ti, .int .i64 pa] 25 (0, 0)) := heap_alloc_new w3 _
    obtain ⟨h4, hh4⟩ : ∃ h4, h4 = w3.heap.size := ⟨_, rfl⟩
    clear hb3 hr3 hs3
    by_cases hf : er = 0
    · subst hf
      obtain ⟨hck, ht, hp, hk0⟩ := read_checks HRR.out.symm
      simp only at ht hp
      obtain ⟨L, hL⟩ : ∃ L, L = showS ⟨so, ro, ol, we, qu, ti, pa⟩ := ⟨_, rfl⟩
      have HL := Lib.hid hL
      have hlen := show_len hck ht hp
      have hbk := back hck ht hp
      rw [← hL] at hlen hbk
      have HBK := Lib.hid hbk
      have HCK : Hid (0 = checkE ⟨so, ro, ol, we, qu, ti, pa⟩) := hck.symm
      clear hL hbk hck
      go_upto_region 13 with fail
      obtain ⟨w4, hw4⟩ : ∃ w4, w4 = w3.alloc (.cells #[.int .i64 so, .int .i64 ro, .bool ol, .slice A3 n c3, .int .i64 qu, .int .i64 ti, .int .i64 pa] 25) := ⟨_, rfl⟩
      rw [← hh4] at q3 ⊢
      rw [← hw4] at q3 R3 hbw4 ⊢
      clear hw4 hh4
      have f3 := fun i => cell_of_row w4 h4 i _ _ _ q3
      have hl4 : h4 < w4.heap.size := (Array.getElem?_eq_some_iff.1 q3).1
      go_wp2_with fail
      refine (show_at so ro ol we qu ti pa n HN A3 c3 w4 (HE.out.out hbw4.out) (by omega) R3.out ht hp L HL).mono ?_
      rintro e w5 ⟨rfl, hb5⟩
      have hbw5 : Below w.heap.size w w5 := hbw4.out.trans (hb5.mono hbw4.out.size)
      go_wp2_with fail
      refine (ReadK_any L w5 (HE.out.out hbw5) hlen so ro ol we qu ti pa 0 0 HBK.out n HN.out).mono ?_
      rintro e w7 ⟨A7, c7, rfl, hc7, hr7, hb7⟩
      have hs5 := hb5.size
      have hs7 := hb7.size
      have q4 : (w7.alloc (.cells #[.int .i64 so, .int .i64 ro, .bool ol, .slice A7 n c7, .int .i64 qu, .int .i64 ti, .int .i64 pa] 25)).heap[h4]? = some (.cells #[.int .i64 so, .int .i64 ro, .bool ol, .slice A3 n c3, .int .i64 qu, .int .i64 ti, .int .i64 pa] 25 (0, 0)) := by
        rw [Below.heap_alloc w7 _ _ (by omega), hb7.block _ (by omega), hb5.block _ (by omega)]; exact q3
      have q5 : (w7.alloc (.cells #[.int .i64 so, .int .i64 ro, .bool ol, .slice A7 n c7, .int .i64 qu, .int .i64 ti, .int .i64 pa] 25)).heap[w7.heap.size]? = some (.cells #[.int .i64 so, .int .i64 ro, .bool ol, .slice A7 n c7, .int .i64 qu, .int .i64 ti, .int .i64 pa] 25 (0, 0)) := heap_alloc_new w7 _
      have hb48 : Below w4.heap.size w4 (w7.alloc (.cells #[.int .i64 so, .int .i64 ro, .bool ol, .slice A7 n c7, .int .i64 qu, .int .i64 ti, .int .i64 pa] 25)) := Below.trans (hb5.trans (hb7.mono hs5)) ((Below.refl _ _).alloc (by omega) _)
      have R7 : Hid (Reads (w7.alloc (.cells #[.int .i64 so, .int .i64 ro, .bool ol, .slice A7 n c7, .int .i64 qu, .int .i64 ti, .int .i64 pa] 25)) (w7.alloc (.cells #[.int .i64 so, .int .i64 ro, .bool ol, .slice A7 n c7, .int .i64 qu, .int .i64 ti, .int .i64 pa] 25)).heap.size 1 A7 n (intsV we)) :=
        (hr7.toReads (B := w7.heap.size) fun _ h => h.2).out ((Below.refl _ _).alloc (Nat.le_refl _) _)
      have R3' : Hid (Reads (w7.alloc (.cells #[.int .i64 so, .int .i64 ro, .bool ol, .slice A7 n c7, .int .i64 qu, .int .i64 ti, .int .i64 pa] 25)) (w7.alloc (.cells #[.int .i64 so, .int .i64 ro, .bool ol, .slice A7 n c7, .int .i64 qu, .int .i64 ti, .int .i64 pa] 25)).heap.size 1 A3 n (intsV we)) := R3.out.out hb48
      have hbw8 : Hid (Below w.heap.size w (w7.alloc (.cells #[.int .i64 so, .int .i64 ro, .bool ol, .slice A7 n c7, .int .i64 qu, .int .i64 ti, .int .i64 pa] 25))) := hbw4.out.trans (hb48.mono hbw4.out.size)
      clear f3 hb5 hb7 hr7 hc7 R3 hb48
      go_wp2_with fail
      obtain ⟨h6, hh6⟩ : ∃ h6, h6 = w7.heap.size := ⟨_, rfl⟩
      obtain ⟨w8, hw8⟩ : ∃ w8, w8 = w7.alloc (.cells #[.int .i64 so, .int .i64 ro, .bool ol, .slice A7 n c7, .int .i64 qu, .int .i64 ti, .int .i64 pa] 25) := ⟨_, rfl⟩
      rw [← hw8] at q4 q5 R3' R7 hbw8 ⊢
      rw [← hh6] at q5 ⊢
      have HS : Hid (∀ V, Below w8.heap.size w8 V → (V.cell? ⟨h4, 0, none⟩ = some (.int .i64 so) ∧ V.cell? ⟨h4, 1, none⟩ = some (.int .i64 ro) ∧ V.cell? ⟨h4, 2, none⟩ = some (.bool ol) ∧ V.cell? ⟨h4, 3, none⟩ = some (.slice A3 n c3) ∧ V.cell? ⟨h4, 4, none⟩ = some (.int .i64 qu) ∧ V.cell? ⟨h4, 5, none⟩ = some (.int .i64 ti) ∧ V.cell? ⟨h4, 6, none⟩ = some (.int .i64 pa)) ∧ (V.cell? ⟨h6, 0, none⟩ = some (.int .i64 so) ∧ V.cell? ⟨h6, 1, none⟩ = some (.int .i64 ro) ∧ V.cell? ⟨h6, 2, none⟩ = some (.bool ol) ∧ V.cell? ⟨h6, 3, none⟩ = some (.slice A7 n c7) ∧ V.cell? ⟨h6, 4, none⟩ = some (.int .i64 qu) ∧ V.cell? ⟨h6, 5, none⟩ = some (.int .i64 ti) ∧ V.cell? ⟨h6, 6, none⟩ = some (.int .i64 pa))) := by
        intro V hV
        obtain ⟨c2, c4⟩ := two_cells q4 q5 hV
        exact ⟨⟨c2 0, c2 1, c2 2, c2 3, c2 4, c2 5, c2 6⟩, ⟨c4 0, c4 1, c4 2, c4 3, c4 4, c4 5, c4 6⟩⟩
      have J6 : Hid (Below w8.heap.size w8 w8.drew) := (Below.refl _ _).drew
      have KC : Hid (∀ V, Below w8.heap.size w8 V → Calls Tryd.prog 13 #[cfv so ro ol A3 n c3 qu ti pa] V fun e w' => e = .returned (.int .i64 0) ∧ Below V.heap.size V w') :=
        fun V hV => check_at so ro ol we qu ti pa n HN A3 c3 V (by omega) (R3'.out.out hV) ht hp 0 HCK
      have KS : Hid (∀ V, Below w8.heap.size w8 V → Calls Tryd.prog 11 #[cfv so ro ol A3 n c3 qu ti pa, cfv so ro ol A7 n c7 qu ti pa] V fun e w' => e = .returned (.bool true) ∧ Below V.heap.size V w') :=
        fun V hV => same_at so ro ol we qu ti pa n HN A3 A7 c3 c7 V (by omega) (R3'.out.out hV) (R7.out.out hV)
      clear q3 q4 q5 hw8 hh6 hbw5 hs5 hs7 hl4
      go_region_held3 (fun w' => (w'.cell? ⟨h4, 0, none⟩ = some (.int .i64 so) ∧ w'.cell? ⟨h4, 1, none⟩ = some (.int .i64 ro) ∧ w'.cell? ⟨h4, 2, none⟩ = some (.bool ol) ∧ w'.cell? ⟨h4, 3, none⟩ = some (.slice A3 n c3) ∧ w'.cell? ⟨h4, 4, none⟩ = some (.int .i64 qu) ∧ w'.cell? ⟨h4, 5, none⟩ = some (.int .i64 ti) ∧ w'.cell? ⟨h4, 6, none⟩ = some (.int .i64 pa)) ∧ (w'.cell? ⟨h6, 0, none⟩ = some (.int .i64 so) ∧ w'.cell? ⟨h6, 1, none⟩ = some (.int .i64 ro) ∧ w'.cell? ⟨h6, 2, none⟩ = some (.bool ol) ∧ w'.cell? ⟨h6, 3, none⟩ = some (.slice A7 n c7) ∧ w'.cell? ⟨h6, 4, none⟩ = some (.int .i64 qu) ∧ w'.cell? ⟨h6, 5, none⟩ = some (.int .i64 ti) ∧ w'.cell? ⟨h6, 6, none⟩ = some (.int .i64 pa)))
        (first | exact HS.out _ J6.out | exact HS.out _ I7.out | exact HS.out _ I8.out | exact HS.out _ I9.out | exact HS.out _ I10.out)
        (first
          | (go_at_call 13; ((with_reducible refine (upto_at J6 (KC.out _ J6.out)).mono ?_); rintro e w10 ⟨rfl, I7⟩))
          | (go_at_call 12; ((with_reducible refine (upto_at I7 (plain_any so ro ol A3 n c3 qu ti pa _)).mono ?_); rintro e w11 ⟨rfl, I8⟩))
          | (go_at_call 12; ((with_reducible refine (upto_at I8 (plain_any so ro ol A7 n c7 qu ti pa _)).mono ?_); rintro e w12 ⟨rfl, I9⟩))
          | (go_at_call 11; ((with_reducible refine (upto_at I9 (KS.out _ I9.out)).mono ?_); rintro e w13 ⟨rfl, I10⟩)))
      go_wp2
      go_ret
      exact ⟨rfl, hbw8.out.trans (I10.out.mono hbw8.out.size)⟩
    · have hz := read_bad HRR.out.symm hf
      simp only [Cf.zero, Cf.mk.injEq] at hz
      obtain ⟨rfl, rfl, rfl, rfl, rfl, rfl, rfl⟩ := hz
      have hf1 : (er != 0) = true := by simp [hf]
      have hn0 : n = 0 := HN.out
      subst hn0
      clear hf hh4
      go_upto_region 12 with fail
      have hl4 : w3.heap.size < (w3.alloc (.cells #[.int .i64 0, .int .i64 0, .bool false, .slice A3 0 c3, .int .i64 0, .int .i64 0, .int .i64 0] 25)).heap.size := by simp
      obtain ⟨h4, hh4⟩ : ∃ h4, h4 = w3.heap.size := ⟨_, rfl⟩
      obtain ⟨w4, hw4⟩ : ∃ w4, w4 = w3.alloc (.cells #[.int .i64 0, .int .i64 0, .bool false, .slice A3 0 c3, .int .i64 0, .int .i64 0, .int .i64 0] 25) := ⟨_, rfl⟩
      rw [← hh4] at q3 ⊢
      rw [← hw4] at q3 R3 hbw4 ⊢
      clear hw4 hh4 hl4
      have f3 := fun i => cell_of_row w4 h4 i _ _ _ q3
      go_wp2_with fail
      refine (plain_any 0 0 false A3 0 c3 0 0 0 w4).mono ?_
      rintro e w5 ⟨rfl, hb5⟩
      have KS := same_at 0 0 false [] 0 0 0 0 rfl A3 none c3 0 w5 (by decide) (R3.out.out hb5) Reads.none_
      have KS := Lib.hid KS
      clear f3 q3
      go_wp2_with fail
      refine KS.out.mono ?_
      rintro e w6 ⟨rfl, hb6⟩
      have hbw6 : Below w.heap.size w w6 := (hbw4.out.trans (hb5.mono hbw4.out.size)).trans (hb6.mono (Nat.le_trans hbw4.out.size hb5.size))
      go_wp2
      go_ret
      exact ⟨rfl, hbw6⟩
end Go.Proofs.YtmmmepmjmofbjaaDoor
