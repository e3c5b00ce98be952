/- The law ConfReads returns true. -/
import Derived.Test.YtmmmepmjmofbjaaDoorProg
import Derived.Test.YtmmmepmjmofbjaaDoorInf
import Derived.Test.YtmmmepmjmofbjaaDoorConfI
import Derived.Test.YtmmmepmjmofbjaaDoorConfX
import Derived.Deep.RegionHeld3
import Derived.Deep.DrawnRows
set_option linter.unusedVariables false
namespace Go.Proofs.YtmmmepmjmofbjaaDoor
open Go Go.RowKit

/-- a call that only makes memory, behind a world in which much is known -/
theorem upto_at {P : Program} {f : FuncId} {args : Array Value} {V w0 : World} {v : Value} (hI : Hid (Below w0.heap.size w0 V)) (hc : Calls P f args V fun e w' => e = .returned v ∧ Below V.heap.size V w') :
    Calls P f args V fun e w' => e = .returned v ∧ Hid (Below w0.heap.size w0 w') :=
  hc.mono fun _ _ ⟨he, hb⟩ => ⟨he, hI.out.trans (hb.mono hI.out.size)⟩
theorem same_self (c : Cf) (A A' : Option Addr) (cap cap' n : Nat) (hn : Hid (n = c.we.length)) (hl : c.we.length ≤ 1000000) (w : World) (h : Reads w w.heap.size 1 A n (intsV c.we)) (h' : Reads w w.heap.size 1 A' n (intsV c.we)) :
    Calls Tryd.prog 11 #[cfv c.so c.ro c.ol A n cap c.qu c.ti c.pa, cfv c.so c.ro c.ol A' n cap' c.qu c.ti c.pa] w fun e w' => e = .returned (.bool true) ∧ Below w.heap.size w w' := by
  have hn := hn.out
  subst hn
  refine (Same_any c.so c.ro c.ol A cap c.we c.qu c.ti c.pa c.so c.ro c.ol A' cap' c.we c.qu c.ti c.pa w hl hl h h').mono ?_
  rintro e w' ⟨rfl, hb⟩
  exact ⟨ret_bool (by simp), hb⟩

theorem linesGo_inv : ∀ (ls : List (List UInt8)) (i : Nat) (st : Rs), Inv st → (∀ l ∈ ls, (wordsL l).length ≤ 1000) → Inv (linesGo ls i st).2.2
  | [], _, _, h, _ => h
  | l :: ls, i, st, h, hl => by
    simp only [linesGo]
    by_cases h0 : (oneLine st (wordsL l)).1 = 0
    · rw [if_pos h0]
      exact linesGo_inv ls (i + 1) _ (h.step (hl l (by simp)) h0) fun x hx => hl x (List.mem_cons_of_mem _ hx)
    · rw [if_neg h0]; exact h
theorem words_le {l x : List UInt8} (hl : ¬ 512 < l.length) (hx : x ∈ splitL 10 l) : (wordsL x).length ≤ 1000 := by
  have h1 := splitL_mem 10 l x hx
  have h2 := splitL_len 32 x
  have h3 : (wordsL x).length ≤ (splitL 32 x).length := List.length_filter_le _ _
  omega
theorem readS_inv {l : List UInt8} (hl : ¬ 512 < l.length) : Inv (linesGo (splitL 10 l) 0 st0).2.2 := linesGo_inv _ _ _ Inv.start fun _ hx => words_le hl hx
theorem readS_len (l : List UInt8) : (readS l).1.we.length ≤ 1000 := by
  unfold readS
  split
  · simp [Cf.zero]
  rename_i hl
  split
  · have hi := readS_inv hl
    generalize (linesGo (splitL 10 l) 0 st0).2.2 = st at hi
    unfold finish
    split
    · rename_i hs
      rw [Bool.and_eq_true] at hs
      have h1 := hi.so hs.1
      have h2 := hi.len
      have h3 : ((if st.seen.contains 4 then st.c else { st.c with we := ones st.c.so }) : Cf).we.length ≤ 1000 := by
        split
        · exact h2
        · simp [ones]; omega
      generalize ((if st.seen.contains 4 then st.c else { st.c with we := ones st.c.so }) : Cf) = c at h3
      show (if (c.we.length : Int) = c.so then (c, (0 : Int), (0 : Int)) else (Cf.zero, 34, 0)).1.we.length ≤ 1000
      split
      · exact h3
      · simp [Cf.zero]
    · simp [Cf.zero]
  · simp [Cf.zero]
set_option maxRecDepth 100000 in
set_option maxHeartbeats 3200000 in
theorem ConfReads_any (s : ByteArray) (w : World) (hE : Env w) (hs : s.size ≤ 9223372036854775807) : Calls Tryd.prog 3 #[.string s] w fun e w' => e = .returned (.bool true) ∧ Below w.heap.size w w' := by
  have HE := Lib.hid hE
  clear hE
  go_enter Tryd.func3, Tryd.ntmps3
  go_wp2_with fail
  refine (awake_any w HE.out).mono ?_
  rintro e w1 ⟨rfl, hb1⟩
  by_cases hlong : 1000 < s.size
  · go_wp2
    go_ret
    exact ⟨rfl, hb1⟩
  have HR1 := Read_any s w1 (HE.out.out hb1) (by omega)
  obtain ⟨r, hr⟩ : ∃ r, r = readS s.data.toList := ⟨_, rfl⟩
  have hlen := readS_len s.data.toList
  rw [← hr] at HR1 hlen
  have HR := Lib.hid hr
  have HR1 := Lib.hid HR1
  clear hr
  obtain ⟨⟨so, ro, ol, we, qu, ti, pa⟩, er, kk⟩ := r
  obtain ⟨n, hn⟩ : ∃ n, n = we.length := ⟨_, rfl⟩
  have HN := Lib.hid hn
  simp only at hlen
  go_wp2_with fail
  refine HR1.out.mono ?_
  rintro e w2 ⟨A2, c2, rfl, hc2, hr2, hb2⟩
  simp only [Cf.v] at hc2 hr2 ⊢
  rw [← hn] at hc2 hr2 hlen ⊢
  clear hn
  have hb3 : Below w2.heap.size w2 (w2.alloc (.cells #[.int .i64 so, .int .i64 ro, .bool ol, .slice A2 n c2, .int .i64 qu, .int .i64 ti, .int .i64 pa] 25)) := (by repeat (first | (with_reducible assumption) | (with_reducible exact Below.refl _ _) | (with_reducible refine Below.drewN ?_ _) | (with_reducible refine Below.drew ?_) | (with_reducible refine Below.setCell ?_ (by first | omega | (simp; done) | (simp; omega) | (simp [World.setCell]; done) | (simp [World.setCell]; omega)) _) | (with_reducible refine Below.alloc ?_ (by first | omega | (simp; done) | (simp; omega) | (simp [World.setCell]; done) | (simp [World.setCell]; omega)) _)))
  have HRR := RefRead_any s (w2.alloc (.cells #[.int .i64 so, .int .i64 ro, .bool ol, .slice A2 n c2, .int .i64 qu, .int .i64 ti, .int .i64 pa] 25)) (by omega)
  rw [← HR.out] at HRR
  have HRR := Lib.hid HRR
  go_wp2_with fail
  refine HRR.out.mono ?_
  rintro e w4 ⟨A4, c4, rfl, hc4, hr4, hb4⟩
  simp only [Cf.v] at hc4 hr4 ⊢
  rw [← HN.out] at hc4 hr4 ⊢
  have q2 : (w4.alloc (.cells #[.int .i64 so, .int .i64 ro, .bool ol, .slice A4 n c4, .int .i64 qu, .int .i64 ti, .int .i64 pa] 29)).heap[w2.heap.size]? = some (.cells #[.int .i64 so, .int .i64 ro, .bool ol, .slice A2 n c2, .int .i64 qu, .int .i64 ti, .int .i64 pa] 25 (0, 0)) := by
    have hs4 := hb4.size
    rw [Below.heap_alloc w4 _ _ (by simp at hs4; omega), hb4.block _ (by simp)]; exact heap_alloc_new w2 _
  have q4 : (w4.alloc (.cells #[.int .i64 so, .int .i64 ro, .bool ol, .slice A4 n c4, .int .i64 qu, .int .i64 ti, .int .i64 pa] 29)).heap[w4.heap.size]? = some (.cells #[.int .i64 so, .int .i64 ro, .bool ol, .slice A4 n c4, .int .i64 qu, .int .i64 ti, .int .i64 pa] 29 (0, 0)) := heap_alloc_new w4 _
  have hb26 : Below w2.heap.size w2 (w4.alloc (.cells #[.int .i64 so, .int .i64 ro, .bool ol, .slice A4 n c4, .int .i64 qu, .int .i64 ti, .int .i64 pa] 29)) := by
    have hs4 := hb4.size
    exact Below.trans (hb3.trans (hb4.mono (by simp))) ((Below.refl _ _).alloc (by simp at hs4; omega) _)
  have R2 : Hid (Reads (w4.alloc (.cells #[.int .i64 so, .int .i64 ro, .bool ol, .slice A4 n c4, .int .i64 qu, .int .i64 ti, .int .i64 pa] 29)) (w4.alloc (.cells #[.int .i64 so, .int .i64 ro, .bool ol, .slice A4 n c4, .int .i64 qu, .int .i64 ti, .int .i64 pa] 29)).heap.size 1 A2 n (intsV we)) := by
    exact (hr2.toReads (B := w2.heap.size) fun _ h => h.2).out hb26
  have R4 : Hid (Reads (w4.alloc (.cells #[.int .i64 so, .int .i64 ro, .bool ol, .slice A4 n c4, .int .i64 qu, .int .i64 ti, .int .i64 pa] 29)) (w4.alloc (.cells #[.int .i64 so, .int .i64 ro, .bool ol, .slice A4 n c4, .int .i64 qu, .int .i64 ti, .int .i64 pa] 29)).heap.size 1 A4 n (intsV we)) := by
    exact (hr4.toReads (B := w4.heap.size) fun _ h => h.2).out ((Below.refl _ _).alloc (Nat.le_refl _) _)
  have e1 : (er == er) = true := by simp
  have e2 : (kk == kk) = true := by simp
  go_wp2_with fail
  obtain ⟨h2, hh2⟩ : ∃ h2, h2 = w2.heap.size := ⟨_, rfl⟩
  obtain ⟨h4, hh4⟩ : ∃ h4, h4 = w4.heap.size := ⟨_, rfl⟩
  obtain ⟨w6, hw6⟩ : ∃ w6, w6 = w4.alloc (.cells #[.int .i64 so, .int .i64 ro, .bool ol, .slice A4 n c4, .int .i64 qu, .int .i64 ti, .int .i64 pa] 29) := ⟨_, rfl⟩
  rw [← hw6] at q2 q4 R2 R4 hb26 ⊢
  rw [← hh2] at q2 ⊢
  rw [← hh4] at q4 ⊢
  have hbw6 : Hid (Below w.heap.size w w6) := (hb1.trans (hb2.mono hb1.size)).trans (hb26.mono (by have := hb1.size; have := hb2.size; omega))
  have l2 : h2 < w6.heap.size := (Array.getElem?_eq_some_iff.1 q2).1
  have l4 : h4 < w6.heap.size := (Array.getElem?_eq_some_iff.1 q4).1
  have HS : Hid (∀ V, Below w6.heap.size w6 V → (V.cell? ⟨h2, 0, none⟩ = some (.int .i64 so) ∧ V.cell? ⟨h2, 1, none⟩ = some (.int .i64 ro) ∧ V.cell? ⟨h2, 2, none⟩ = some (.bool ol) ∧ V.cell? ⟨h2, 3, none⟩ = some (.slice A2 n c2) ∧ V.cell? ⟨h2, 4, none⟩ = some (.int .i64 qu) ∧ V.cell? ⟨h2, 5, none⟩ = some (.int .i64 ti) ∧ V.cell? ⟨h2, 6, none⟩ = some (.int .i64 pa)) ∧ (V.cell? ⟨h4, 0, none⟩ = some (.int .i64 so) ∧ V.cell? ⟨h4, 1, none⟩ = some (.int .i64 ro) ∧ V.cell? ⟨h4, 2, none⟩ = some (.bool ol) ∧ V.cell? ⟨h4, 3, none⟩ = some (.slice A4 n c4) ∧ V.cell? ⟨h4, 4, none⟩ = some (.int .i64 qu) ∧ V.cell? ⟨h4, 5, none⟩ = some (.int .i64 ti) ∧ V.cell? ⟨h4, 6, none⟩ = some (.int .i64 pa))) := by
    intro V hV
    have c2 := fun i => (hV.cell (p := ⟨h2, i, none⟩) l2).trans (cell_of_row w6 h2 i _ _ _ q2)
    have c4 := fun i => (hV.cell (p := ⟨h4, i, none⟩) l4).trans (cell_of_row w6 h4 i _ _ _ q4)
    exact ⟨⟨c2 0, c2 1, c2 2, c2 3, c2 4, c2 5, c2 6⟩, ⟨c4 0, c4 1, c4 2, c4 3, c4 4, c4 5, c4 6⟩⟩
  have I6 : Hid (Below w6.heap.size w6 w6) := Below.refl _ _
  have J6 : Hid (Below w6.heap.size w6 w6.drew) := (Below.refl _ _).drew
  have HSM : Hid (∀ V, Below w6.heap.size w6 V → Calls Tryd.prog 11 #[cfv so ro ol A2 n c2 qu ti pa, cfv so ro ol A4 n c4 qu ti pa] V fun e w' => e = .returned (.bool true) ∧ Below V.heap.size V w') := by
    intro V hV
    exact same_self ⟨so, ro, ol, we, qu, ti, pa⟩ A2 A4 c2 c4 n HN.out (by have := HN.out; show we.length ≤ _; omega) V (R2.out.out hV) (R4.out.out hV)
  clear q2 q4 hw6 hh2 hh4 hb26 hb1 hb2 hb3 hb4 hr2 hr4 hc2 hc4
  go_region_held3 (fun w' => (w'.cell? ⟨h2, 0, none⟩ = some (.int .i64 so) ∧ w'.cell? ⟨h2, 1, none⟩ = some (.int .i64 ro) ∧ w'.cell? ⟨h2, 2, none⟩ = some (.bool ol) ∧ w'.cell? ⟨h2, 3, none⟩ = some (.slice A2 n c2) ∧ w'.cell? ⟨h2, 4, none⟩ = some (.int .i64 qu) ∧ w'.cell? ⟨h2, 5, none⟩ = some (.int .i64 ti) ∧ w'.cell? ⟨h2, 6, none⟩ = some (.int .i64 pa)) ∧ (w'.cell? ⟨h4, 0, none⟩ = some (.int .i64 so) ∧ w'.cell? ⟨h4, 1, none⟩ = some (.int .i64 ro) ∧ w'.cell? ⟨h4, 2, none⟩ = some (.bool ol) ∧ w'.cell? ⟨h4, 3, none⟩ = some (.slice A4 n c4) ∧ w'.cell? ⟨h4, 4, none⟩ = some (.int .i64 qu) ∧ w'.cell? ⟨h4, 5, none⟩ = some (.int .i64 ti) ∧ w'.cell? ⟨h4, 6, none⟩ = some (.int .i64 pa)))
    (first | exact HS.out _ I6.out | exact HS.out _ J6.out | exact HS.out _ I7.out | exact HS.out _ I8.out)
    (first
      | (go_at_call 12; ((with_reducible refine (upto_at J6 (plain_any so ro ol A2 n c2 qu ti pa _)).mono ?_); rintro e w7 ⟨rfl, I7⟩))
      | (go_at_call 11; ((with_reducible refine (upto_at I7 (HSM.out _ I7.out)).mono ?_); rintro e w8 ⟨rfl, I8⟩)))
  go_wp2
  go_ret
  exact ⟨rfl, hbw6.out.trans (I8.out.mono hbw6.out.size)⟩
end Go.Proofs.YtmmmepmjmofbjaaDoor
