/- conf.Read = readS. -/
import Derived.Test.YtmmmepmjmofbjaaDoorProg
import Derived.Test.YtmmmepmjmofbjaaDoorInf
import Derived.Test.YtmmmepmjmofbjaaDoorShelf
import Derived.Test.YtmmmepmjmofbjaaDoorPlainC
import Derived.Test.YtmmmepmjmofbjaaDoorConfI
import Derived.Test.YtmmmepmjmofbjaaDoorConfN
import Derived.Test.YtmmmepmjmofbjaaDoorConfO
set_option linter.unusedVariables false
namespace Go.Proofs.YtmmmepmjmofbjaaDoor
open Go Go.RowKit

theorem splitLib_any (s : ByteArray) (w : World) (hE : Env w) (hs : s.size ≤ 1000000) :
    Calls Tryd.prog 18 #[.string s, .string (bs [10])] w fun e w' => ∃ A, e = .returned (.slice A (splitL 10 s.data.toList).length (splitL 10 s.data.toList).length) ∧
      RdP w' (NewP w.heap.size w') 1 A (splitL 10 s.data.toList).length (strsV (splitL 10 s.data.toList)) ∧ Below w.heap.size w w' := by
  obtain ⟨m, hm⟩ := hE.maxLen
  refine (Tryd.strings_Split s (bs [10]) m w (by omega) hm (by decide)).mono ?_
  rintro e w' ⟨rfl, rfl⟩
  have h1 := split_eq 10 s.data.toList.length s.data.toList (Nat.le_refl _)
  have h2 := split_len 10 s.data.toList
  rw [bs_toList] at h1 h2
  rw [h1, h2]
  refine ⟨_, rfl, ⟨by rw [strsV_len]; omega, fun _ => ⟨_, rfl, ⟨Nat.le_refl _, by simp⟩, fun j u hu => ?_⟩⟩, (by repeat (first | (with_reducible assumption) | (with_reducible exact Below.refl _ _) | (with_reducible refine Below.drewN ?_ _) | (with_reducible refine Below.drew ?_) | (with_reducible refine Below.setCell ?_ (by first | omega | (simp; done) | (simp; omega) | (simp [World.setCell]; done) | (simp [World.setCell]; omega)) _) | (with_reducible refine Below.alloc ?_ (by first | omega | (simp; done) | (simp; omega) | (simp [World.setCell]; done) | (simp [World.setCell]; omega)) _)))⟩
  have : (⟨w.heap.size, 0, none⟩ : Addr).add j = ⟨w.heap.size, j, none⟩ := by unfold Addr.add; split <;> simp_all
  rw [this, cell_of_row _ w.heap.size j _ _ (0, 0) (heap_alloc_new w _)]
  rw [List.map_map]
  simpa [strsV] using hu

theorem blank_any (W : World) (x : Nat) : FnGives Tryd.prog 20 #[] #[encR x] (.bool (blankP x)) W := by
  unfold FnGives encR
  go_enter Tryd.func20, Tryd.ntmps20
  go_wp2
  go_ret
  exact ⟨ret_bool (by unfold blankP; rw [Bool.eq_iff_iff, beq_iff_eq, beq_iff_eq]; omega), 0, rfl⟩
set_option maxRecDepth 100000 in
theorem fieldsLib_any (s : ByteArray) (w : World) (hs : s.size ≤ 1000000) :
    Calls Tryd.prog 19 #[.string s, .func (.func 20) #[] #[]] w fun e w' => ∃ A, e = .returned (.slice A (wordsL s.data.toList).length (wordsL s.data.toList).length) ∧
      RdP w' (NewP w.heap.size w') 1 A (wordsL s.data.toList).length (strsV (wordsL s.data.toList)) ∧ Below w.heap.size w w' := by
  refine (Tryd.strings_FieldsFunc_runes 20 #[] (enters_of Tryd.func20 (by kernel_rfl) rfl) blankP s w (by omega) (fun W x _ _ => blank_any W x)).mono ?_
  rintro e w' ⟨A, rfl, hA, hown, hb⟩
  have h1 := fields_eq s.data.toList
  rw [bs_toList] at h1
  rw [h1, List.length_map] at hown ⊢
  obtain ⟨A2, c2, hv, hc, hr⟩ := RdP.of_own hown
  injection hv with hA2 _ _
  subst hA2
  rw [List.map_map] at hr
  exact ⟨_, rfl, hr, hb⟩

set_option maxRecDepth 100000 in
set_option maxHeartbeats 6400000 in
theorem Read_any (s : ByteArray) (w : World) (hE : Env w) (hs : s.size ≤ 1000000) :
    Calls Tryd.prog 9 #[.string s] w (ReadRet w (readS s.data.toList)) := by
  obtain ⟨R, hR⟩ : ∃ R, R = readS s.data.toList := ⟨_, rfl⟩
  rw [← hR]
  have HR := Lib.hid hR
  clear hR
  by_cases h512 : 512 < s.size
  · have HE := Lib.hid (HR.out.trans (readS_long (by rw [← size_eq]; exact h512)))
    go_enter Tryd.func9, Tryd.ntmps9
    go_wp2
    exact bodyPost_ret (v := .tuple #[Cf.v Cf.zero none 0, .int .i64 13, .int .i64 0]) (by simp [results, Tryd.results9, go_sem, Cf.zero]) rfl (ReadRet.err HE.out rfl (by repeat (first | (with_reducible assumption) | (with_reducible exact Below.refl _ _) | (with_reducible refine Below.drewN ?_ _) | (with_reducible refine Below.drew ?_) | (with_reducible refine Below.setCell ?_ (by first | omega | (simp; done) | (simp; omega) | (simp [World.setCell]; done) | (simp [World.setCell]; omega)) _) | (with_reducible refine Below.alloc ?_ (by first | omega | (simp; done) | (simp; omega) | (simp [World.setCell]; done) | (simp [World.setCell]; omega)) _))))
  have hmm : ∀ W : World, (Instr.makeMap 45 none).run Tryd.prog W = .ok (.map (some W.heap.size)) (W.alloc (.map #[] 0)) := fun _ => by kernel_rfl
  go_enter Tryd.func9, Tryd.ntmps9
  go_wp2_with fail
  have c0 : (((w.alloc (.cells #[.int .i64 0, .int .i64 0, .bool false, .slice none 0 0, .int .i64 0, .int .i64 0, .int .i64 0] 25)).alloc (.cells #[.int .i64 0, .int .i64 8, .bool false, .slice none 0 0, .int .i64 4, .int .i64 0, .int .i64 0] 25)).alloc (.map #[] 0)).heap[w.heap.size]? = some (.cells #[.int .i64 0, .int .i64 0, .bool false, .slice none 0 0, .int .i64 0, .int .i64 0, .int .i64 0] 25 (0, 0)) := by
    rw [Below.heap_alloc _ _ _ (by simp; omega), Below.heap_alloc _ _ _ (by simp)]; exact heap_alloc_new w _
  have c1 : ConfAt (((w.alloc (.cells #[.int .i64 0, .int .i64 0, .bool false, .slice none 0 0, .int .i64 0, .int .i64 0, .int .i64 0] 25)).alloc (.cells #[.int .i64 0, .int .i64 8, .bool false, .slice none 0 0, .int .i64 4, .int .i64 0, .int .i64 0] 25)).alloc (.map #[] 0)) (w.heap.size + 1) st0.c none 0 := by
    unfold ConfAt
    rw [Below.heap_alloc _ _ _ (by simp)]
    have := heap_alloc_new (w.alloc (.cells #[.int .i64 0, .int .i64 0, .bool false, .slice none 0 0, .int .i64 0, .int .i64 0, .int .i64 0] 25)) (.cells #[.int .i64 0, .int .i64 8, .bool false, .slice none 0 0, .int .i64 4, .int .i64 0, .int .i64 0] 25)
    simpa [st0] using this
  have c2 : SeenMap (((w.alloc (.cells #[.int .i64 0, .int .i64 0, .bool false, .slice none 0 0, .int .i64 0, .int .i64 0, .int .i64 0] 25)).alloc (.cells #[.int .i64 0, .int .i64 8, .bool false, .slice none 0 0, .int .i64 4, .int .i64 0, .int .i64 0] 25)).alloc (.map #[] 0)) (w.heap.size + 1 + 1) 0 [] := by
    have := SeenMap.made ((w.alloc (.cells #[.int .i64 0, .int .i64 0, .bool false, .slice none 0 0, .int .i64 0, .int .i64 0, .int .i64 0] 25)).alloc (.cells #[.int .i64 0, .int .i64 8, .bool false, .slice none 0 0, .int .i64 4, .int .i64 0, .int .i64 0] 25))
    simpa using this
  have hbw0 : Below w.heap.size w (((w.alloc (.cells #[.int .i64 0, .int .i64 0, .bool false, .slice none 0 0, .int .i64 0, .int .i64 0, .int .i64 0] 25)).alloc (.cells #[.int .i64 0, .int .i64 8, .bool false, .slice none 0 0, .int .i64 4, .int .i64 0, .int .i64 0] 25)).alloc (.map #[] 0)) := (by repeat (first | (with_reducible assumption) | (with_reducible exact Below.refl _ _) | (with_reducible refine Below.drewN ?_ _) | (with_reducible refine Below.drew ?_) | (with_reducible refine Below.setCell ?_ (by first | omega | (simp; done) | (simp; omega) | (simp [World.setCell]; done) | (simp [World.setCell]; omega)) _) | (with_reducible refine Below.alloc ?_ (by first | omega | (simp; done) | (simp; omega) | (simp [World.setCell]; done) | (simp [World.setCell]; omega)) _)))
  have hs0 : (((w.alloc (.cells #[.int .i64 0, .int .i64 0, .bool false, .slice none 0 0, .int .i64 0, .int .i64 0, .int .i64 0] 25)).alloc (.cells #[.int .i64 0, .int .i64 8, .bool false, .slice none 0 0, .int .i64 4, .int .i64 0, .int .i64 0] 25)).alloc (.map #[] 0)).heap.size = w.heap.size + 3 := by simp
  obtain ⟨w0, hw0⟩ : ∃ w0, w0 = (((w.alloc (.cells #[.int .i64 0, .int .i64 0, .bool false, .slice none 0 0, .int .i64 0, .int .i64 0, .int .i64 0] 25)).alloc (.cells #[.int .i64 0, .int .i64 8, .bool false, .slice none 0 0, .int .i64 4, .int .i64 0, .int .i64 0] 25)).alloc (.map #[] 0)) := ⟨_, rfl⟩
  rw [← hw0] at c0 c1 c2 hbw0 hs0 ⊢
  clear hw0 hmm
  have hP0 : RdPre w0 (w.heap.size + 3) (w.heap.size + 1) (w.heap.size + 1 + 1) 0 st0 none 0 :=
    ⟨c1, c2, by have := hE.size; omega, by have := hE.size; omega, by omega, by omega, by omega, by omega, fun _ => ⟨rfl, rfl⟩, ⟨rfl, fun h => absurd h (by simp [st0])⟩, Nat.le_refl _, Inv.start, fun k hk => by simp [st0] at hk⟩
  clear c1 c2
  refine (splitLib_any s w0 (hE.out hbw0) hs).mono ?_
  rintro e w1 ⟨A, rfl, hRn, hb1⟩
  obtain ⟨L, hL⟩ : ∃ L, L = splitL 10 s.data.toList := ⟨_, rfl⟩
  have hLn : L.length ≤ 513 := by have := splitL_len 10 s.data.toList; rw [← size_eq] at this; rw [hL]; omega
  have hLm : ∀ x ∈ L, x.length ≤ 512 := by intro x hx; rw [hL] at hx; have := splitL_mem 10 s.data.toList x hx; rw [← size_eq] at this; omega
  rw [← hL] at hRn ⊢
  have HL := Lib.hid hL
  clear hL
  obtain ⟨n, hn⟩ : ∃ n, n = L.length := ⟨_, rfl⟩
  rw [← hn] at hRn hLn ⊢
  have HN := Lib.hid hn
  clear hn
  have hP1 := hP0.keep hb1
  have e1 := (hb1.block w.heap.size (by omega)).trans c0
  have hbw1 : Below w.heap.size w w1 := hbw0.trans (hb1.mono (by omega))
  have hLr : RdP w1 (NewP (w.heap.size + 3) w1) 1 A n (strsV L) := hRn.mono fun b h => ⟨by have := h.1; omega, h.2⟩
  have hs1 := hb1.size
  clear hRn hb1 hP0 c0
  go_wp2
  go_loopw [7, 8, 9, 10, 20] (fun _ _ _ _ i wr => ∃ (q : Nat) (st : Rs) (A' : Option Addr) (cap' n' : Nat), q ≤ n ∧ i = .int .i64 q ∧ Hid (linesGo L 0 st0 = linesGo (L.drop q) q st) ∧ Hid (RdPre wr (w.heap.size + 3) (w.heap.size + 1) (w.heap.size + 1 + 1) n' st A' cap') ∧ n' ≤ q ∧
      wr.heap[w.heap.size]? = some (.cells #[.int .i64 0, .int .i64 0, .bool false, .slice none 0 0, .int .i64 0, .int .i64 0, .int .i64 0] 25 (0, 0)) ∧ RdP wr (NewP (w.heap.size + 3) wr) 1 A n (strsV L) ∧ Below w.heap.size w wr) (fun _ _ _ _ i _ => n - (intOf i).toNat)
  case atStart => exact ⟨0, st0, none, 0, 0, Nat.zero_le _, rfl, rfl, hP1, Nat.le_refl _, e1, hLr, hbw1⟩
  case round =>
    obtain ⟨q, st, A', cap', n', hq, rfl, hgo, hP, hn', b1, hrl, hbw⟩ := hrel
    clear e1 hLr hbw1 hP1
    have hEr : Env wr := hE.out hbw
    have hB3 := hP.out.hB
    by_cases hlt : q < n
    · have hx : q < L.length := by rw [← HN.out]; exact hlt
      obtain ⟨y, hy⟩ : ∃ y, y = L[q] := ⟨_, rfl⟩
      have hys : y.length ≤ 512 := by rw [hy]; exact hLm _ (List.getElem_mem hx)
      obtain ⟨ad, rfl, hab, hac⟩ := hrl.2 (by omega)
      have g1 : wr.cell? (ad.add q) = some (.string (bs y)) := by rw [hy]; exact hac q _ (strsV_get hx)
      have HY := Lib.hid hy
      clear hy hac
      go_wp2_with fail
      refine (fieldsLib_any (bs y) _ (by rw [bs_size]; omega)).mono ?_
      rintro e w2 ⟨A2, rfl, hr2, hb2⟩
      rw [bs_data] at hr2 ⊢
      have hP2 := hP.out.keep hb2
      have hwl : (wordsL y).length ≤ 600 := by
        have := splitL_len 32 y
        have h2 : (wordsL y).length ≤ (splitL 32 y).length := List.length_filter_le _ _
        omega
      have hwm : ∀ x ∈ wordsL y, x ≠ [] ∧ x.length ≤ 1000 := by
        intro x hx
        have := List.mem_filter.1 hx
        exact ⟨by have h2 := this.2; intro h; subst h; simp at h2, by have := splitL_mem 32 y x this.1; omega⟩
      have hrd := read_any st (w.heap.size + 3) (w.heap.size + 1) (w.heap.size + 1 + 1) n' A' cap' (wordsL y) A2 (wordsL y).length w2 (hEr.out hb2) hP2 (by omega) (by omega) (hr2.mono fun b h => ⟨by have := h.1; omega, h.2⟩) (Nat.le_refl _) hwm
      have hs2 := hb2.size
      have HRD := Lib.hid hrd
      clear hrd hwm
      obtain ⟨o, ho⟩ : ∃ o, o = oneLine st (wordsL y) := ⟨_, rfl⟩
      have HO := Lib.hid ho
      rw [← ho] at HRD
      clear ho
      go_wp2_with fail
      refine HRD.out.mono ?_
      rintro e w3 ⟨rfl, hbut3, hok⟩
      have d1 : w3.heap[w.heap.size]? = some (.cells #[.int .i64 0, .int .i64 0, .bool false, .slice none 0 0, .int .i64 0, .int .i64 0, .int .i64 0] 25 (0, 0)) := (hbut3.block w.heap.size (by omega) (by omega) (by omega)).trans ((hb2.block _ (by omega)).trans b1)
      have f1 := fun i => cell_of_row w3 w.heap.size i _ _ _ d1
      have z1 := fun i => frozen_of_row w3 w.heap.size i _ _ d1
      have hbw3 : Below w.heap.size w w3 := (hbw.trans (hb2.mono (by omega))).trans (hbut3.toBelow (by omega) (by omega) (by omega))
      obtain ⟨er, o2⟩ := o
      by_cases he : er = 0
      · subst he
        obtain ⟨A3, cap3, n3, hP3, hn3⟩ := hok rfl
        have HP3 := Lib.hid hP3
        have hrl3 : RdP w3 (NewP (w.heap.size + 3) w3) 1 (some ad) n (strsV L) := hrl.keep (fun b h => (hbut3.block b (by have := h.2; omega) (by have := h.1; omega) (by have := h.1; omega)).trans (hb2.block b h.2)) fun b h => ⟨h.1, by have := h.2; have := hbut3.size; omega⟩
        clear hP3 hok
        go_wp2
        go_roundw
        case rel => exact ⟨q + 1, o2, A3, cap3, n3, by omega, by go_num, hgo.out.trans (go_step hx HY.out HO.out.symm), HP3.out, by omega, d1, hrl3, hbw3⟩
        case measure => simp [intOf]; omega
      · have he0 : (er != 0) = true := by simp [he]
        have HE := Lib.hid he
        have HG : Hid (R = (Cf.zero, er, (q : Int) + 1)) := HR.out.trans (readS_err (by rw [← size_eq]; exact h512) (by rw [← HL.out]; exact hgo.out.trans (go_err hx HY.out (by rw [← HO.out]) he)) he)
        clear he hok
        go_wp2
        exact bodyPost_ret (v := .tuple #[Cf.v Cf.zero none 0, .int .i64 er, .int .i64 ((q : Int) + 1)]) (by simp [results, Tryd.results9, go_sem, Cf.zero, f1]) rfl (ReadRet.err HG.out rfl (by repeat (first | (with_reducible assumption) | (with_reducible exact Below.refl _ _) | (with_reducible refine Below.drewN ?_ _) | (with_reducible refine Below.drew ?_) | (with_reducible refine Below.setCell ?_ (by first | omega | (simp; done) | (simp; omega) | (simp [World.setCell]; done) | (simp [World.setCell]; omega)) _) | (with_reducible refine Below.alloc ?_ (by first | omega | (simp; done) | (simp; omega) | (simp [World.setCell]; done) | (simp [World.setCell]; omega)) _))))
    · obtain rfl : q = n := by omega
      have HF : Hid (R = finish st) := HR.out.trans (readS_ok (by rw [← size_eq]; exact h512) (by rw [← HL.out]; exact hgo.out.trans (go_end (by rw [← HN.out]; exact Nat.le_refl _))))
      clear hrl
      have hP' := hP.out
      have hinv := hP'.inv
      have hl1 := hP'.seen.look [115, 111, 117, 114, 99, 101, 115] (by decide)
      have hl6 := hP'.seen.look [116, 105, 109, 101, 111, 117, 116] (by decide)
      have hl4 := hP'.seen.look [119, 101, 105, 103, 104, 116, 115] (by decide)
      rw [seen_word hP'.s17 (by decide), show placeI [115, 111, 117, 114, 99, 101, 115] = 1 by decide] at hl1
      rw [seen_word hP'.s17 (by decide), show placeI [116, 105, 109, 101, 111, 117, 116] = 6 by decide] at hl6
      rw [seen_word hP'.s17 (by decide), show placeI [119, 101, 105, 103, 104, 116, 115] = 4 by decide] at hl4
      have f1 := fun i => cell_of_row wr w.heap.size i _ _ _ b1
      have z1 := fun i => frozen_of_row wr w.heap.size i _ _ b1
      have f2 := fun i => cell_of_row wr (w.heap.size + 1) i _ _ _ hP'.conf
      have z2 := fun i => frozen_of_row wr (w.heap.size + 1) i _ _ hP'.conf
      have hcap := hP'.hcap
      have B1 := Lib.hid b1
      clear b1
      obtain ⟨s1, hs1⟩ : ∃ b, b = st.seen.contains (1 : Int) := ⟨_, rfl⟩
      obtain ⟨s4, hs4⟩ : ∃ b, b = st.seen.contains (4 : Int) := ⟨_, rfl⟩
      obtain ⟨s6, hs6⟩ : ∃ b, b = st.seen.contains (6 : Int) := ⟨_, rfl⟩
      rw [← hs1] at hl1
      rw [← hs4] at hl4
      rw [← hs6] at hl6
      have HS1 := Lib.hid hs1
      have HS4 := Lib.hid hs4
      have HS6 := Lib.hid hs6
      clear hs1 hs4 hs6 hP'
      have none_case : (¬ (s1 = true ∧ s6 = true)) → R = (Cf.zero, 32, 0) := fun h => HF.out.trans (finish_none (by rw [← HS1.out, ← HS6.out]; exact h))
      have HNC := Lib.hid none_case
      clear none_case
      cases s1 with
      | false =>
        have HE := Lib.hid (HNC.out (by simp))
        go_wp2
        exact bodyPost_ret (v := .tuple #[Cf.v Cf.zero none 0, .int .i64 32, .int .i64 0]) (by simp [results, Tryd.results9, go_sem, Cf.zero, f1]) rfl (ReadRet.err HE.out rfl (by repeat (first | (with_reducible assumption) | (with_reducible exact Below.refl _ _) | (with_reducible refine Below.drewN ?_ _) | (with_reducible refine Below.drew ?_) | (with_reducible refine Below.setCell ?_ (by first | omega | (simp; done) | (simp; omega) | (simp [World.setCell]; done) | (simp [World.setCell]; omega)) _) | (with_reducible refine Below.alloc ?_ (by first | omega | (simp; done) | (simp; omega) | (simp [World.setCell]; done) | (simp [World.setCell]; omega)) _))))
      | true =>
      cases s6 with
      | false =>
        have HE := Lib.hid (HNC.out (by simp))
        go_wp2
        exact bodyPost_ret (v := .tuple #[Cf.v Cf.zero none 0, .int .i64 32, .int .i64 0]) (by simp [results, Tryd.results9, go_sem, Cf.zero, f1]) rfl (ReadRet.err HE.out rfl (by repeat (first | (with_reducible assumption) | (with_reducible exact Below.refl _ _) | (with_reducible refine Below.drewN ?_ _) | (with_reducible refine Below.drew ?_) | (with_reducible refine Below.setCell ?_ (by first | omega | (simp; done) | (simp; omega) | (simp [World.setCell]; done) | (simp [World.setCell]; omega)) _) | (with_reducible refine Below.alloc ?_ (by first | omega | (simp; done) | (simp; omega) | (simp [World.setCell]; done) | (simp [World.setCell]; omega)) _))))
      | true =>
      have hso := hinv.so HS1.out.symm
      cases s4 with
      | true =>
        have H4 := Lib.hid (finish_four ⟨HS1.out.symm, HS6.out.symm⟩ HS4.out.symm)
        by_cases hle : (st.c.we.length : Int) = st.c.so
        · have hle1 : ((st.c.we.length : Int) != st.c.so) = false := by simp [hle]
          have HE : Hid (R = (st.c, 0, 0)) := by show R = _; rw [HF.out, H4.out, if_pos hle]
          clear hle
          go_wp2
          refine bodyPost_ret (v := .tuple #[Cf.v st.c A' cap', .int .i64 0, .int .i64 0]) (by simp [results, Tryd.results9, go_sem, f1, f2]) rfl ?_
          rw [HE.out]
          refine ⟨A', cap', rfl, hcap, ?_, (by repeat (first | (with_reducible assumption) | (with_reducible exact Below.refl _ _) | (with_reducible refine Below.drewN ?_ _) | (with_reducible refine Below.drew ?_) | (with_reducible refine Below.setCell ?_ (by first | omega | (simp; done) | (simp; omega) | (simp [World.setCell]; done) | (simp [World.setCell]; omega)) _) | (with_reducible refine Below.alloc ?_ (by first | omega | (simp; done) | (simp; omega) | (simp [World.setCell]; done) | (simp [World.setCell]; omega)) _)))⟩
          exact hP.out.we.keep (fun b hb => set7_other (by have := hb.1; omega)) fun b hb => ⟨by have := hb.1; omega, by have := hb.2; simpa using this⟩
        · have hle1 : ((st.c.we.length : Int) != st.c.so) = true := by simp [hle]
          have HE : Hid (R = (Cf.zero, 34, 0)) := by show R = _; rw [HF.out, H4.out, if_neg hle]
          go_wp2
          exact bodyPost_ret (v := .tuple #[Cf.v Cf.zero none 0, .int .i64 34, .int .i64 0]) (by simp [results, Tryd.results9, go_sem, Cf.zero, f1]) rfl (ReadRet.err HE.out rfl (by repeat (first | (with_reducible assumption) | (with_reducible exact Below.refl _ _) | (with_reducible refine Below.drewN ?_ _) | (with_reducible refine Below.drew ?_) | (with_reducible refine Below.setCell ?_ (by first | omega | (simp; done) | (simp; omega) | (simp [World.setCell]; done) | (simp [World.setCell]; omega)) _) | (with_reducible refine Below.alloc ?_ (by first | omega | (simp; done) | (simp; omega) | (simp [World.setCell]; done) | (simp [World.setCell]; omega)) _))))
      | false =>
        have HE := Lib.hid (HF.out.trans (finish_ones ⟨HS1.out.symm, HS6.out.symm⟩ HS4.out.symm (by omega)))
        obtain ⟨ns, hns⟩ := Int.eq_ofNat_of_zero_le (show 0 ≤ st.c.so by omega)
        have hns8 : ns ≤ 8 := by omega
        have hns1 : 1 ≤ ns := by omega
        have HNS := Lib.hid hns
        have hcf : wr.heap[w.heap.size + 1]? = some (.cells #[.int .i64 (ns : Int), .int .i64 st.c.ro, .bool st.c.ol, .slice A' st.c.we.length cap', .int .i64 st.c.qu, .int .i64 st.c.ti, .int .i64 st.c.pa] 25 (0, 0)) := by
          rw [← hns]; exact hP.out.conf
        clear f2 z2 hso hns
        have f2 := fun i => cell_of_row wr (w.heap.size + 1) i _ _ _ hcf
        have z2 := fun i => frozen_of_row wr (w.heap.size + 1) i _ _ hcf
        have fa : ∀ o, (wr.alloc o).cell? ⟨w.heap.size + 1, 0, none⟩ = some (.int .i64 ns) := fun o => (World.cell?_alloc_lt _ _ _ (by show w.heap.size + 1 < _; omega)).trans (f2 0)
        have HCF := Lib.hid hcf
        clear hcf
        have hrep := fun (g : Nat) (V : World) (h : V.heap[g]? = some (.cells #[.int .i64 1] 3 (0, 0))) => repeat_any ns hns1 hns8 g V h
        have HREP := Lib.hid hrep
        clear hrep
        go_wp2_with fail
        refine (HREP.out _ _ (heap_alloc_new _ _)).mono ?_
        rintro e w5 ⟨A9, c9, rfl, hc9, hr9, hb5⟩
        have hs5 : wr.heap.size + 1 ≤ w5.heap.size := by simpa using hb5.size
        have hb5' : Below wr.heap.size wr w5 := Below.trans ((Below.refl _ _).alloc (Nat.le_refl _) _) (hb5.mono (by simp))
        have q1 := (hb5'.block _ (by omega)).trans B1.out
        have q2 := (hb5'.block _ (by omega)).trans HCF.out
        clear f1 f2 z1 z2 fa
        have f1 := fun i => cell_of_row w5 w.heap.size i _ _ _ q1
        have z1 := fun i => frozen_of_row w5 w.heap.size i _ _ q1
        have f2 := fun i => cell_of_row w5 (w.heap.size + 1) i _ _ _ q2
        have z2 := fun i => frozen_of_row w5 (w.heap.size + 1) i _ _ q2
        have hle : ((ns : Int) != (ns : Int)) = false := by simp
        have hbw5 : Below w.heap.size w w5 := hbw.trans (hb5'.mono (by omega))
        have HR9 := Lib.hid hr9
        clear hr9 q1 q2 hb5 hl1 hl4 hl6
        go_wp2
        have hones : ones st.c.so = List.replicate ns 1 := by rw [HNS.out]; simp [ones]
        have hd : ({ st.c with we := ones st.c.so } : Cf) = ⟨ns, st.c.ro, st.c.ol, List.replicate ns 1, st.c.qu, st.c.ti, st.c.pa⟩ := by
          rw [hones]; have := HNS.out; cases hst : st.c; simp [hst] at this ⊢; exact this
        refine bodyPost_ret (v := .tuple #[cfv ns st.c.ro st.c.ol A9 ns c9 st.c.qu st.c.ti st.c.pa, .int .i64 0, .int .i64 0]) (by simp [results, Tryd.results9, go_sem, f1, f2]) rfl ?_
        rw [HE.out, hd]
        refine ⟨A9, c9, by simp [Cf.v], by simpa using hc9, ?_, (by repeat (first | (with_reducible assumption) | (with_reducible exact Below.refl _ _) | (with_reducible refine Below.drewN ?_ _) | (with_reducible refine Below.drew ?_) | (with_reducible refine Below.setCell ?_ (by first | omega | (simp; done) | (simp; omega) | (simp [World.setCell]; done) | (simp [World.setCell]; omega)) _) | (with_reducible refine Below.alloc ?_ (by first | omega | (simp; done) | (simp; omega) | (simp [World.setCell]; done) | (simp [World.setCell]; omega)) _)))⟩
        simp only [List.length_replicate]
        exact HR9.out.keep (fun b hb => (set7_other (by have := hb.1; simp at this; omega)).trans (Below.heap_setCell _ _ _ _ (by have := hb.1; simp at this ⊢; omega))) fun b hb => ⟨by have := hb.1; simp at this; omega, by have := hb.2; simpa using this⟩
end Go.Proofs.YtmmmepmjmofbjaaDoor
