/- lookoutref17.Read. -/
import Derived.Test.YtmmmepmjmofbjaaDoorProg
import Derived.Test.YtmmmepmjmofbjaaDoorInf
import Derived.Test.YtmmmepmjmofbjaaDoorConfS
import Derived.Deep.RegionHeld3
import Derived.Deep.DeepCutAuto
set_option linter.unusedVariables false
namespace Go.Proofs.YtmmmepmjmofbjaaDoor
open Go Go.RowKit

/-- what Read answers -/
def ReadRet (w : World) (r : Cf × Int × Int) (e : Ending) (w' : World) : Prop :=
  ∃ A cap, e = .returned (.tuple #[r.1.v A cap, .int .i64 r.2.1, .int .i64 r.2.2]) ∧ r.1.we.length ≤ cap ∧ RdP w' (NewP w.heap.size w') 1 A r.1.we.length (intsV r.1.we) ∧ Below w.heap.size w w'
theorem ReadRet.err {w w' : World} {r : Cf × Int × Int} {v : Value} {e k : Int} (hr : r = (Cf.zero, e, k)) (hv : v = .tuple #[Cf.v Cf.zero none 0, .int .i64 e, .int .i64 k]) (hb : Below w.heap.size w w') : ReadRet w r (.returned v) w' := by
  subst hr; exact ⟨none, 0, by rw [hv], Nat.le_refl _, ⟨rfl, fun h => absurd h (by simp [Cf.zero])⟩, hb⟩

theorem readS_long {l : List UInt8} (h : 512 < l.length) : readS l = (Cf.zero, 13, 0) := by unfold readS; rw [if_pos h]

theorem El41' : El Tryd.prog 51 4 (.bool false) 1 1 := ⟨by kernel_rfl, by kernel_rfl, rfl, by decide, by decide⟩

/-- the eight marks -/
def seenC (l : List Int) : Array Value := #[.bool (l.contains 0), .bool (l.contains 1), .bool (l.contains 2), .bool (l.contains 3), .bool (l.contains 4), .bool (l.contains 5), .bool (l.contains 6), .bool (l.contains 7)]

theorem seenC_get {l : List Int} {k : Nat} (h : k ≤ 7) : (seenC l)[k]? = some (.bool (l.contains (k : Int))) := by
  match k, h with
  | 0, _ | 1, _ | 2, _ | 3, _ | 4, _ | 5, _ | 6, _ | 7, _ => rfl
  | k + 8, h => exact absurd h (by omega)
theorem seenC_set {l : List Int} {k : Nat} (h : k ≤ 7) : (seenC l).setIfInBounds k (.bool true) = seenC ((k : Int) :: l) := by
  match k, h with
  | 0, _ | 1, _ | 2, _ | 3, _ | 4, _ | 5, _ | 6, _ | 7, _ => simp [seenC]
  | k + 8, h => exact absurd h (by omega)
def CellsAt (w : World) (g : Nat) (c : Cf) (A : Option Addr) (cap : Nat) : Prop :=
  w.cell? ⟨g, 0, none⟩ = some (.int .i64 c.so) ∧ w.cell? ⟨g, 1, none⟩ = some (.int .i64 c.ro) ∧ w.cell? ⟨g, 2, none⟩ = some (.bool c.ol) ∧ w.cell? ⟨g, 3, none⟩ = some (.slice A c.we.length cap) ∧
  w.cell? ⟨g, 4, none⟩ = some (.int .i64 c.qu) ∧ w.cell? ⟨g, 5, none⟩ = some (.int .i64 c.ti) ∧ w.cell? ⟨g, 6, none⟩ = some (.int .i64 c.pa)
theorem set7 {w : World} {b : Nat} {a0 a1 a2 a3 a4 a5 a6 v0 v1 v2 v3 v4 v5 v6 : Value} {t : TypeId} (h : w.heap[b]? = some (.cells #[a0, a1, a2, a3, a4, a5, a6] t (0, 0))) :
    (((((((w.setCell ⟨b, 0, none⟩ v0).setCell ⟨b, 1, none⟩ v1).setCell ⟨b, 2, none⟩ v2).setCell ⟨b, 3, none⟩ v3).setCell ⟨b, 4, none⟩ v4).setCell ⟨b, 5, none⟩ v5).setCell ⟨b, 6, none⟩ v6).heap[b]? = some (.cells #[v0, v1, v2, v3, v4, v5, v6] t (0, 0)) := by
  have h0 := heap_setCell_same _ b 0 _ _ v0 h
  have h1 := heap_setCell_same _ b 1 _ _ v1 h0
  have h2 := heap_setCell_same _ b 2 _ _ v2 h1
  have h3 := heap_setCell_same _ b 3 _ _ v3 h2
  have h4 := heap_setCell_same _ b 4 _ _ v4 h3
  have h5 := heap_setCell_same _ b 5 _ _ v5 h4
  have h6 := heap_setCell_same _ b 6 _ _ v6 h5
  rw [h6]; simp
theorem set7_other {w : World} {b k : Nat} {v0 v1 v2 v3 v4 v5 v6 : Value} (h : k ≠ b) :
    (((((((w.setCell ⟨b, 0, none⟩ v0).setCell ⟨b, 1, none⟩ v1).setCell ⟨b, 2, none⟩ v2).setCell ⟨b, 3, none⟩ v3).setCell ⟨b, 4, none⟩ v4).setCell ⟨b, 5, none⟩ v5).setCell ⟨b, 6, none⟩ v6).heap[k]? = w.heap[k]? := by
  rw [Below.heap_setCell _ _ _ _ h, Below.heap_setCell _ _ _ _ h, Below.heap_setCell _ _ _ _ h, Below.heap_setCell _ _ _ _ h, Below.heap_setCell _ _ _ _ h, Below.heap_setCell _ _ _ _ h, Below.heap_setCell _ _ _ _ h]
/-- the call's own three blocks -/
structure Own3 (w : World) (H : Nat) (st : Rs) (A : Option Addr) (cap : Nat) : Prop where
  b1 : w.heap[H]? = some (.cells #[.int .i64 0, .int .i64 0, .bool false, .slice none 0 0, .int .i64 0, .int .i64 0, .int .i64 0] 29 (0, 0))
  b2 : w.heap[H + 1]? = some (.cells #[.int .i64 st.c.so, .int .i64 st.c.ro, .bool st.c.ol, .slice A st.c.we.length cap, .int .i64 st.c.qu, .int .i64 st.c.ti, .int .i64 st.c.pa] 29 (0, 0))
  b3 : w.heap[H + 1 + 1]? = some (.cells (seenC st.seen) 4 (0, 0))
theorem Own3.below {w w' : World} {H B : Nat} {st : Rs} {A : Option Addr} {cap : Nat} (h : Own3 w H st A cap) (hb : Below B w w') (hB : H + 3 ≤ B) : Own3 w' H st A cap :=
  ⟨(hb.block _ (by omega)).trans h.b1, (hb.block _ (by omega)).trans h.b2, (hb.block _ (by omega)).trans h.b3⟩

theorem finish_none {st : Rs} (h : ¬ (st.seen.contains 1 = true ∧ st.seen.contains 6 = true)) : finish st = (Cf.zero, 32, 0) := by
  unfold finish; rw [if_neg (by simpa [Bool.and_eq_true] using h)]
theorem finish_four {st : Rs} (h : st.seen.contains 1 = true ∧ st.seen.contains 6 = true) (h4 : st.seen.contains 4 = true) : finish st = if (st.c.we.length : Int) = st.c.so then (st.c, 0, 0) else (Cf.zero, 34, 0) := by
  unfold finish; rw [if_pos (by simpa [Bool.and_eq_true] using h)]; simp only [h4, if_true]
theorem finish_ones {st : Rs} (h : st.seen.contains 1 = true ∧ st.seen.contains 6 = true) (h4 : st.seen.contains 4 = false) (hs : 0 ≤ st.c.so) : finish st = ({ st.c with we := ones st.c.so }, 0, 0) := by
  unfold finish; rw [if_pos (by simpa [Bool.and_eq_true] using h)]; simp only [h4, Bool.false_eq_true, if_false, ones, List.length_replicate]
  rw [if_pos (by omega)]

set_option maxRecDepth 100000 in
set_option maxHeartbeats 6400000 in
theorem RefRead_any (s : ByteArray) (w : World) (hs : s.size ≤ 1000000) :
    Calls Tryd.prog 10 #[.string s] w (ReadRet w (readS s.data.toList)) := by
  obtain ⟨R, hR⟩ : ∃ R, R = readS s.data.toList := ⟨_, rfl⟩
  rw [← hR]
  have HR := Lib.hid hR
  clear hR
  by_cases h512 : 512 < s.size
  · have HE := Lib.hid (HR.out.trans (readS_long (by rw [← size_eq]; exact h512)))
    go_enter Tryd.func10, Tryd.ntmps10
    go_wp2
    exact bodyPost_ret (v := .tuple #[Cf.v Cf.zero none 0, .int .i64 13, .int .i64 0]) (by simp [results, Tryd.results10, go_sem, Cf.zero]) rfl (ReadRet.err HE.out rfl (by repeat (first | (with_reducible assumption) | (with_reducible exact Below.refl _ _) | (with_reducible refine Below.drewN ?_ _) | (with_reducible refine Below.drew ?_) | (with_reducible refine Below.setCell ?_ (by first | omega | (simp; done) | (simp; omega) | (simp [World.setCell]; done) | (simp [World.setCell]; omega)) _) | (with_reducible refine Below.alloc ?_ (by first | omega | (simp; done) | (simp; omega) | (simp [World.setCell]; done) | (simp [World.setCell]; omega)) _))))
  have hmk : ∀ W : World, (Instr.makeSlice 51 (.int .i64 8) (.int .i64 8)).run Tryd.prog W = .ok (.slice (some ⟨W.heap.size, 0, none⟩) 8 8) (W.alloc (.cells #[.bool false, .bool false, .bool false, .bool false, .bool false, .bool false, .bool false, .bool false] 4)) := fun _ => by kernel_rfl
  go_enter Tryd.func10, Tryd.ntmps10
  go_wp2_with (go_at_call 23; refine (split_any s 10 _ (by omega)).mono ?_; rintro e w1 ⟨A, c, rfl, hcap, hRn, hb1⟩)
  obtain ⟨L, hL⟩ : ∃ L, L = splitL 10 s.data.toList := ⟨_, rfl⟩
  have hLn : L.length ≤ 513 := by have := splitL_len 10 s.data.toList; rw [← size_eq] at this; rw [hL]; omega
  have hLm : ∀ x ∈ L, x.length ≤ 512 := by intro x hx; rw [hL] at hx; have := splitL_mem 10 s.data.toList x hx; rw [← size_eq] at this; omega
  rw [← hL] at hRn hcap ⊢
  have HL := Lib.hid hL
  clear hL
  obtain ⟨n, hn⟩ : ∃ n, n = L.length := ⟨_, rfl⟩
  rw [← hn] at hRn hcap hLn ⊢
  have HN := Lib.hid hn
  clear hn
  have hB1 : w.heap.size + 3 ≤ w1.heap.size := by simpa using hb1.size
  have e1 : w1.heap[w.heap.size]? = some (.cells #[.int .i64 0, .int .i64 0, .bool false, .slice none 0 0, .int .i64 0, .int .i64 0, .int .i64 0] 29 (0, 0)) := by
    rw [hb1.block _ (by simp; omega), Below.heap_alloc _ _ _ (by simp; omega), Below.heap_alloc _ _ _ (by simp)]; exact heap_alloc_new w _
  have e2 : w1.heap[w.heap.size + 1]? = some (.cells #[.int .i64 0, .int .i64 8, .bool false, .slice none 0 0, .int .i64 4, .int .i64 0, .int .i64 0] 29 (0, 0)) := by
    rw [hb1.block _ (by simp), Below.heap_alloc _ _ _ (by simp)]
    have := heap_alloc_new (w.alloc (.cells #[.int .i64 0, .int .i64 0, .bool false, .slice none 0 0, .int .i64 0, .int .i64 0, .int .i64 0] 29)) (.cells #[.int .i64 0, .int .i64 8, .bool false, .slice none 0 0, .int .i64 4, .int .i64 0, .int .i64 0] 29)
    simpa using this
  have e3 : w1.heap[w.heap.size + 1 + 1]? = some (.cells (seenC []) 4 (0, 0)) := by
    rw [hb1.block _ (by simp)]
    have := heap_alloc_new ((w.alloc (.cells #[.int .i64 0, .int .i64 0, .bool false, .slice none 0 0, .int .i64 0, .int .i64 0, .int .i64 0] 29)).alloc (.cells #[.int .i64 0, .int .i64 8, .bool false, .slice none 0 0, .int .i64 4, .int .i64 0, .int .i64 0] 29)) (.cells (seenC []) 4)
    simpa [seenC] using this
  have hbw1 : Below w.heap.size w w1 := Below.trans (by repeat (first | (with_reducible assumption) | (with_reducible exact Below.refl _ _) | (with_reducible refine Below.drewN ?_ _) | (with_reducible refine Below.drew ?_) | (with_reducible refine Below.setCell ?_ (by first | omega | (simp; done) | (simp; omega) | (simp [World.setCell]; done) | (simp [World.setCell]; omega)) _) | (with_reducible refine Below.alloc ?_ (by first | omega | (simp; done) | (simp; omega) | (simp [World.setCell]; done) | (simp [World.setCell]; omega)) _))) (hb1.mono (by simp; omega))
  have hLr : RdP w1 (NewP (w.heap.size + 3) w1) 1 A n (strsV L) := hRn.mono fun b h => ⟨by have := h.1; simp at this; omega, h.2⟩
  clear hRn hb1
  go_loopw [8] (fun i wr => ∃ (q : Nat) (st : Rs) (A' : Option Addr) (cap' : Nat), q ≤ n ∧ i = .int .i64 q ∧ linesGo L 0 st0 = linesGo (L.drop q) q st ∧ Inv st ∧
      wr.heap[w.heap.size]? = some (.cells #[.int .i64 0, .int .i64 0, .bool false, .slice none 0 0, .int .i64 0, .int .i64 0, .int .i64 0] 29 (0, 0)) ∧
      wr.heap[w.heap.size + 1]? = some (.cells #[.int .i64 st.c.so, .int .i64 st.c.ro, .bool st.c.ol, .slice A' st.c.we.length cap', .int .i64 st.c.qu, .int .i64 st.c.ti, .int .i64 st.c.pa] 29 (0, 0)) ∧
      wr.heap[w.heap.size + 1 + 1]? = some (.cells (seenC st.seen) 4 (0, 0)) ∧ st.c.we.length ≤ cap' ∧ RdP wr (NewP (w.heap.size + 3) wr) 1 A' st.c.we.length (intsV st.c.we) ∧
      RdP wr (NewP (w.heap.size + 3) wr) 1 A n (strsV L) ∧ Below w.heap.size w wr) (fun i _ => n - (intOf i).toNat)
  case atStart => exact ⟨0, st0, none, 0, Nat.zero_le _, rfl, rfl, Inv.start, e1, e2, e3, Nat.le_refl _, ⟨rfl, fun h => absurd h (by simp [st0])⟩, hLr, hbw1⟩
  case round =>
    obtain ⟨q, st, A', cap', hq, rfl, hgo, hinv, b1, b2, b3, hc', hrc, hrl, hbw⟩ := hrel
    clear e1 e2 e3 hLr hbw1
    have HGO := Lib.hid hgo
    clear hgo
    by_cases hlt : q < n
    · have hx : q < L.length := by rw [← HN.out]; exact hlt
      obtain ⟨y, hy⟩ : ∃ y, y = L[q] := ⟨_, rfl⟩
      have hys : y.length ≤ 512 := by rw [hy]; exact hLm _ (List.getElem_mem hx)
      obtain ⟨ad, rfl, hab, hac⟩ := hrl.2 (by omega)
      have g1 : wr.cell? (ad.add q) = some (.string (bs y)) := by rw [hy]; exact hac q _ (strsV_get hx)
      have HY := Lib.hid hy
      clear hy hac
      go_wp2_with fail
      refine (Words_any (bs y) _ (by rw [bs_size]; omega)).mono ?_
      rintro e w2 ⟨A2, c2, rfl, hc2, hr2, hb2⟩
      have l3 : w.heap.size + 1 + 1 < wr.heap.size := (Array.getElem?_eq_some_iff.1 b3).1
      have d1 := (hb2.block _ (by omega)).trans b1
      have d2 := (hb2.block _ (by omega)).trans b2
      have d3 := (hb2.block _ l3).trans b3
      have hrc2 : RdP w2 (NewP (w.heap.size + 3) wr) 1 A' st.c.we.length (intsV st.c.we) := hrc.keep (fun b h => hb2.block b h.2) fun _ h => h
      have hrl2 : RdP w2 (NewP (w.heap.size + 3) wr) 1 (some ad) n (strsV L) := hrl.keep (fun b h => hb2.block b h.2) fun _ h => h
      have hbw2 : Below w.heap.size w w2 := hbw.trans (hb2.mono (by omega))
      have hs2 := hb2.size
      have f1 := fun i => cell_of_row w2 w.heap.size i _ _ _ d1
      have f2 := fun i => cell_of_row w2 (w.heap.size + 1) i _ _ _ d2
      have z1 := fun i => frozen_of_row w2 w.heap.size i _ _ d1
      have z2 := fun i => frozen_of_row w2 (w.heap.size + 1) i _ _ d2
      have z3 := fun i => frozen_of_row w2 (w.heap.size + 1 + 1) i _ _ d3
      have D1 := Lib.hid d1
      have D2 := Lib.hid d2
      have D3 := Lib.hid d3
      clear d1 d2 d3 b1 b2 b3 hb2 hrc hrl hbw g1
      rw [bs_data] at hr2 hc2 ⊢
      obtain ⟨ws, hws⟩ : ∃ ws, ws = wordsL y := ⟨_, rfl⟩
      rw [← hws] at hr2 hc2 ⊢
      have hwl : ws.length ≤ 600 := by
        rw [hws]
        have h1 := List.length_filter_le (fun x => !x.isEmpty) (splitL 32 y)
        have h2 := splitL_len 32 y
        unfold wordsL
        omega
      have hwm : ∀ x ∈ ws, x ≠ [] ∧ x.length ≤ 512 := by
        intro x hx
        rw [hws] at hx
        have := List.mem_filter.1 hx
        exact ⟨by have h2 := this.2; intro h; subst h; simp at h2, Nat.le_trans (splitL_mem 32 y x this.1) hys⟩
      have HWS := Lib.hid hws
      clear hws
      obtain ⟨m, hm⟩ : ∃ m, m = ws.length := ⟨_, rfl⟩
      rw [← hm] at hr2 hc2 hwl ⊢
      cases ws with
      | nil =>
        have m0 : ((m : Int) == 0) = true := by simp [hm]
        have HM := Lib.hid hm
        clear hm
        go_wp2
        go_roundw
        case rel => exact ⟨q + 1, st, A', cap', by omega, by go_num, HGO.out.trans (go_step hx HY.out (by rw [← HWS.out]; rfl)), hinv, D1.out, D2.out, D3.out, hc', hrc2.mono fun b h => ⟨h.1, Nat.lt_of_lt_of_le h.2 hs2⟩, hrl2.mono fun b h => ⟨h.1, Nat.lt_of_lt_of_le h.2 hs2⟩, hbw2⟩
        case measure => simp [intOf]; omega
      | cons x r =>
        have m0 : ((m : Int) == 0) = false := by simp [hm]; omega
        have mpos : 0 < m := by simp [hm]
        have HM := Lib.hid hm
        clear hm
        obtain ⟨hx1, hx2⟩ := hwm x (by simp)
        cases x with
        | nil => exact absurd rfl hx1
        | cons c0 x' =>
        obtain ⟨ad2, rfl, ha2, hcell2⟩ := hr2.2 mpos
        obtain ⟨sx, hsx⟩ : ∃ sx, sx = bs (c0 :: x') := ⟨_, rfl⟩
        have g2 : w2.cell? ad2 = some (.string sx) := by
          have := hcell2 0 _ (strsV_get (l := (c0 :: x') :: r) (by simp))
          rw [hsx]
          simpa [Addr.add] using this
        have hsp : 0 < sx.size := by rw [hsx, bs_size]; simp
        have hsc : sx[0] = c0 := by subst hsx; rfl
        have HSX := Lib.hid hsx
        have HSC := Lib.hid hsc
        clear hsx hsc
        by_cases h35 : ((sx[0].toNat : Int) == 35) = true
        · have H35 := Lib.hid h35
          go_wp2
          go_roundw
          case rel => exact ⟨q + 1, st, A', cap', by omega, by go_num, HGO.out.trans (go_step hx HY.out (by rw [← HWS.out]; exact one_rem (by have h := H35.out; rw [beq_iff_eq] at h; have h2 : sx[0] = 35 := UInt8.toNat.inj (by simpa using (by omega : sx[0].toNat = 35)); rw [List.head?_cons, ← HSC.out, h2]))), hinv, D1.out, D2.out, D3.out, hc', hrc2.mono fun b h => ⟨h.1, Nat.lt_of_lt_of_le h.2 hs2⟩, hrl2.mono fun b h => ⟨h.1, Nat.lt_of_lt_of_le h.2 hs2⟩, hbw2⟩
          case measure => simp [intOf]; omega
        · have h35' : ((sx[0].toNat : Int) == 35) = false := by simpa using h35
          clear h35
          have hno : Hid (¬ (c0 :: x').head? = some 35) := by
            show ¬ _
            rw [List.head?_cons, ← HSC.out]
            intro h
            injection h with h
            rw [h] at h35'
            simp at h35'
          have hown : Own3 w2 w.heap.size st A' cap' := ⟨D1.out, D2.out, D3.out⟩
          have hpl := place_any sx w2
          have hpe : placeI sx.data.toList = placeI (c0 :: x') := by rw [HSX.out, bs_data]
          obtain ⟨kk, hkk⟩ := Int.eq_ofNat_of_zero_le (place_bd (c0 :: x')).1
          have hk7 : kk ≤ 7 := by have := (place_bd (c0 :: x')).2; omega
          rw [hpe, hkk] at hpl
          have HKK := Lib.hid hkk
          have HPL := Lib.hid hpl
          clear hkk hpl hpe f1 f2 z1 z2 z3 D1 D2 D3
          go_wp2_with fail
          refine HPL.out.mono ?_
          rintro e w3 ⟨rfl, hb3⟩
          have hown3 := hown.below hb3 (by omega)
          have hrc3 : RdP w3 (NewP (w.heap.size + 3) wr) 1 A' st.c.we.length (intsV st.c.we) := hrc2.keep (fun b h => hb3.block b (Nat.lt_of_lt_of_le h.2 hs2)) fun _ h => h
          have hrl3 : RdP w3 (NewP (w.heap.size + 3) wr) 1 (some ad) n (strsV L) := hrl2.keep (fun b h => hb3.block b (Nat.lt_of_lt_of_le h.2 hs2)) fun _ h => h
          have hrw3 : RdP w3 (NewP wr.heap.size w2) 1 (some ad2) m (strsV ((c0 :: x') :: r)) := hr2.keep (fun b h => hb3.block b h.2) fun _ h => h
          have hbw3 : Below w.heap.size w w3 := hbw2.trans (hb3.mono (by omega))
          have hs3 := hb3.size
          have f1 := fun i => cell_of_row w3 w.heap.size i _ _ _ hown3.b1
          have z1 := fun i => frozen_of_row w3 w.heap.size i _ _ hown3.b1
          by_cases hk0 : kk = 0
          · have k0 : ((kk : Int) == 0) = true := by simp [hk0]
            have HE : Hid (R = (Cf.zero, 30, (q : Int) + 1)) := HR.out.trans (readS_err (by rw [← size_eq]; exact h512) (by rw [← HL.out]; exact HGO.out.trans (go_err hx HY.out (by rw [← HWS.out, one_key hno.out (by rw [HKK.out, hk0]; rfl)]) (by decide))) (by decide))
            clear hk0
            go_wp2
            exact bodyPost_ret (v := .tuple #[Cf.v Cf.zero none 0, .int .i64 30, .int .i64 ((q : Int) + 1)]) (by simp [results, Tryd.results10, go_sem, Cf.zero, f1]) rfl (ReadRet.err HE.out rfl (by repeat (first | (with_reducible assumption) | (with_reducible exact Below.refl _ _) | (with_reducible refine Below.drewN ?_ _) | (with_reducible refine Below.drew ?_) | (with_reducible refine Below.setCell ?_ (by first | omega | (simp; done) | (simp; omega) | (simp [World.setCell]; done) | (simp [World.setCell]; omega)) _) | (with_reducible refine Below.alloc ?_ (by first | omega | (simp; done) | (simp; omega) | (simp [World.setCell]; done) | (simp [World.setCell]; omega)) _))))
          have k0 : ((kk : Int) == 0) = false := by rw [beq_eq_false_iff_ne]; omega
          have hz0 : Hid (¬ placeI (c0 :: x') = 0) := by show ¬ _; rw [HKK.out]; omega
          have f3 : w3.cell? ⟨w.heap.size + 1 + 1, kk, none⟩ = some (.bool (st.seen.contains (kk : Int))) := by rw [cell_of_row w3 (w.heap.size + 1 + 1) kk _ _ _ hown3.b3]; exact seenC_get hk7
          have z3 : w3.frozen? ⟨w.heap.size + 1 + 1, kk, none⟩ = false := frozen_of_row w3 (w.heap.size + 1 + 1) kk _ _ hown3.b3
          have f2 := fun i => cell_of_row w3 (w.heap.size + 1) i _ _ _ hown3.b2
          obtain ⟨sk, hsk⟩ : ∃ sk, sk = st.seen.contains (kk : Int) := ⟨_, rfl⟩
          rw [← hsk] at f3
          have HSK := Lib.hid hsk
          clear hsk
          cases sk with
          | true =>
            have HE : Hid (R = (Cf.zero, 31, (q : Int) + 1)) := HR.out.trans (readS_err (by rw [← size_eq]; exact h512) (by rw [← HL.out]; exact HGO.out.trans (go_err hx HY.out (by rw [← HWS.out, one_twice hno.out hz0.out (by rw [HKK.out]; exact HSK.out.symm)]) (by decide))) (by decide))
            go_wp2
            exact bodyPost_ret (v := .tuple #[Cf.v Cf.zero none 0, .int .i64 31, .int .i64 ((q : Int) + 1)]) (by simp [results, Tryd.results10, go_sem, Cf.zero, f1]) rfl (ReadRet.err HE.out rfl (by repeat (first | (with_reducible assumption) | (with_reducible exact Below.refl _ _) | (with_reducible refine Below.drewN ?_ _) | (with_reducible refine Below.drew ?_) | (with_reducible refine Below.setCell ?_ (by first | omega | (simp; done) | (simp; omega) | (simp [World.setCell]; done) | (simp [World.setCell]; omega)) _) | (with_reducible refine Below.alloc ?_ (by first | omega | (simp; done) | (simp; omega) | (simp [World.setCell]; done) | (simp [World.setCell]; omega)) _))))
          | false =>
            have f2' : ∀ i u, (w3.setCell ⟨w.heap.size + 1 + 1, kk, none⟩ u).cell? ⟨w.heap.size + 1, i, none⟩ = w3.cell? ⟨w.heap.size + 1, i, none⟩ := fun i u => World.cell?_setCell_other _ _ _ _ (by simp)
            have f2'' : ∀ o i u, ((w3.setCell ⟨w.heap.size + 1 + 1, kk, none⟩ u).alloc o).cell? ⟨w.heap.size + 1, i, none⟩ = w3.cell? ⟨w.heap.size + 1, i, none⟩ := fun o i u => by rw [World.cell?_alloc_lt _ _ _ (by simp; omega)]; exact f2' i u
            obtain ⟨Wd, hWd⟩ : ∃ Wd, Wd = if c2 = 1 then some ad2 else some (ad2.add 1) := ⟨_, rfl⟩
            have hrl' : r.length = m - 1 := by have := HM.out; simp at this; omega
            have hline : ∀ (wc : Nat) (V : World), Below w3.heap.size (w3.setCell ⟨w.heap.size + 1 + 1, kk, none⟩ (.bool true)) V →
                Calls Tryd.prog 26 #[st.c.v A' cap', .int .i64 kk, .slice Wd (m - 1) wc] V (LineRet V (NewP (w.heap.size + 3) wr) st.c kk r) := by
              intro wc V hV
              have h1 := (hrw3.setCell (a := ⟨w.heap.size + 1 + 1, kk, none⟩) (by rintro ⟨h1, _⟩; simp at h1; omega) (.bool true))
              have h2 : Reads V V.heap.size 1 (some ad2) m (strsV ((c0 :: x') :: r)) := (h1.keep (w' := V) (p' := fun b => b < V.heap.size) (fun b hb => hV.block b (Nat.lt_of_lt_of_le hb.2 (by omega))) (fun b h => by have h2 := h.2; have h3 := hV.size; simp [World.setCell] at h3; omega)).toReads fun _ h => h
              have h3 := h2.cut (k := 1) (cap := c2) (by omega) hc2
              have hW : Reads V V.heap.size 1 Wd (m - 1) (strsV r) := by rw [hWd]; simpa [strsV] using h3
              rw [← hrl'] at hW ⊢
              refine line_any st.c _ A' cap' kk r Wd wc V (by omega) (fun x hx => by have := (hwm x (by simp [hx])).2; omega) ?_ ?_ hc' hW
              · exact (hrc3.setCell (a := ⟨w.heap.size + 1 + 1, kk, none⟩) (by rintro ⟨h1, _⟩; simp at h1; omega) (.bool true)).keep (fun b hb => hV.block b (Nat.lt_of_lt_of_le hb.2 (by omega))) fun _ h => h
              · intro b h
                have h2 := h.2
                have h3 := hV.size
                simp [World.setCell] at h3
                omega
            have hsl : ∀ V : World, (Instr.slice 41 (.slice (some ad2) m c2) (some (.int .i64 1)) none none).run Tryd.prog V = .ok (.slice Wd (m - 1) (c2 - 1)) V := by
              intro V
              have := run_slice_tail (P := Tryd.prog) (t := 41) (e := 9) (size := 1) (by kernel_rfl) (fun _ => by kernel_rfl) (some ad2) m c2 1 mpos V
              rw [hWd]
              simpa using this
            have hown4 : Own3 (w3.setCell ⟨w.heap.size + 1 + 1, kk, none⟩ (.bool true)) w.heap.size ⟨st.c, (kk : Int) :: st.seen⟩ A' cap' := by
              refine ⟨(Below.heap_setCell _ _ _ _ (by simp; omega)).trans hown3.b1, (Below.heap_setCell _ _ _ _ (by simp)).trans hown3.b2, ?_⟩
              rw [heap_setCell_same _ _ _ _ _ _ hown3.b3, seenC_set hk7]
            have HLINE := Lib.hid hline
            have HOWN := Lib.hid hown4
            clear hline hrl' hWd hown4
            have hbw4 : Below w.heap.size w (w3.setCell ⟨w.heap.size + 1 + 1, kk, none⟩ (.bool true)) := hbw3.setCell (by simp; omega) _
            go_upto_region 17 with fail
            go_cut [11, 12] (fun s11 s12 wx => ∃ (g : Nat) (d : Cf) (A5 : Option Addr) (cap5 : Nat), s11 = .pointer (some ⟨g, 0, none⟩) ∧ s12 = .int .i64 (lineE kk r) ∧ CellsAt wx g d A5 cap5 ∧
              (lineE kk r = 0 → d = lineD st.c kk r) ∧ d.we.length ≤ cap5 ∧ RdP wx (OutP (NewP (w.heap.size + 3) wr) w3.heap.size wx) 1 A5 d.we.length (intsV d.we) ∧ Below w3.heap.size (w3.setCell ⟨w.heap.size + 1 + 1, kk, none⟩ (.bool true)) wx)
            case first =>
              go_region_with (go_at_call 26; refine (HLINE.out _ _ ?_).mono ?_; (next => repeat (first | (with_reducible assumption) | (with_reducible exact Below.refl _ _) | (with_reducible refine Below.drewN ?_ _) | (with_reducible refine Below.drew ?_) | (with_reducible refine Below.setCell ?_ (by first | omega | (simp; done) | (simp; omega) | (simp [World.setCell]; done) | (simp [World.setCell]; omega)) _) | (with_reducible refine Below.alloc ?_ (by first | omega | (simp; done) | (simp; omega) | (simp [World.setCell]; done) | (simp [World.setCell]; omega)) _))); rintro e w5 ⟨d, A5, cap5, rfl, hd0, hc5, hr5, hb5⟩; have fa := fun i => hb5.cell (p := ⟨w3.heap.size, i, none⟩); have za := fun i => hb5.frozen (p := ⟨w3.heap.size, i, none⟩); have hb6 : Below w3.heap.size (w3.setCell ⟨w.heap.size + 1 + 1, kk, none⟩ (.bool true)) w5 := Below.trans (by repeat (first | (with_reducible assumption) | (with_reducible exact Below.refl _ _) | (with_reducible refine Below.drewN ?_ _) | (with_reducible refine Below.drew ?_) | (with_reducible refine Below.setCell ?_ (by first | omega | (simp; done) | (simp; omega) | (simp [World.setCell]; done) | (simp [World.setCell]; omega)) _) | (with_reducible refine Below.alloc ?_ (by first | omega | (simp; done) | (simp; omega) | (simp [World.setCell]; done) | (simp [World.setCell]; omega)) _))) (hb5.mono (by simp)); have hs6 : w3.heap.size ≤ w5.heap.size := by have := hb6.size; simpa using this)
              all_goals (go_wp2_with fail; go_meet)
              · refine ⟨_, d, A5, cap5, rfl, rfl, ?_, hd0, hc5, ?_, (by repeat (first | (with_reducible assumption) | (with_reducible exact Below.refl _ _) | (with_reducible refine Below.drewN ?_ _) | (with_reducible refine Below.drew ?_) | (with_reducible refine Below.setCell ?_ (by first | omega | (simp; done) | (simp; omega) | (simp [World.setCell]; done) | (simp [World.setCell]; omega)) _) | (with_reducible refine Below.alloc ?_ (by first | omega | (simp; done) | (simp; omega) | (simp [World.setCell]; done) | (simp [World.setCell]; omega)) _)))⟩
                · unfold CellsAt; simp
                · refine RdP.keep hr5 (fun b hb => Below.heap_alloc _ _ _ hb.2) fun b hb => ⟨hb.1.imp id (fun h => ?_), ?_⟩
                  · simpa [World.setCell] using h
                  · have := hb.2; simp; omega
              all_goals
                refine ⟨_, d, A5, cap5, rfl, rfl, ?_, hd0, hc5, ?_, ?_⟩
                · unfold CellsAt; simp [go_sem, fa]
                · have hne : ∀ b, OutP (NewP (w.heap.size + 3) wr) (w3.heap.size + 1) w5 b → ¬ b = w3.heap.size := by
                    rintro b ⟨h1 | h1, h2⟩ rfl
                    · have := h1.2; omega
                    · omega
                  have hr7 : RdP w5 (OutP (NewP (w.heap.size + 3) wr) (w3.heap.size + 1) w5) 1 A5 d.we.length (intsV d.we) := hr5.mono fun b hb => ⟨hb.1.imp id (fun h => by simpa using h), hb.2⟩
                  have S := fun (V : World) (i : Nat) (u : Value) (h : RdP V (OutP (NewP (w.heap.size + 3) wr) (w3.heap.size + 1) w5) 1 A5 d.we.length (intsV d.we)) => RdP.setCell (a := ⟨w3.heap.size, i, none⟩) h (fun hb => hne _ hb rfl) u
                  exact (S _ _ _ (S _ _ _ (S _ _ _ (S _ _ _ (S _ _ _ (S _ _ _ (S _ _ _ hr7))))))).mono fun b hb => ⟨hb.1.imp id (fun h => by omega), by have := hb.2; simp; omega⟩
                · exact (by repeat (first | (with_reducible assumption) | (with_reducible exact Below.refl _ _) | (with_reducible refine Below.drewN ?_ _) | (with_reducible refine Below.drew ?_) | (with_reducible refine Below.setCell ?_ (by first | omega | (simp; done) | (simp; omega) | (simp [World.setCell]; done) | (simp [World.setCell]; omega)) _) | (with_reducible refine Below.alloc ?_ (by first | omega | (simp; done) | (simp; omega) | (simp [World.setCell]; done) | (simp [World.setCell]; omega)) _)))
            case rest =>
              obtain ⟨g, d, A5, cap5, rfl, rfl, hce, hd0, hc5, hr5, hb5⟩ := hcut
              have own5 := HOWN.out.below hb5 (by omega)
              obtain ⟨g0, g1', g2', g3', g4', g5', g6'⟩ := hce
              have hs5 : w3.heap.size ≤ wc.heap.size := by have := hb5.size; simpa using this
              have hbw5 : Below w.heap.size w wc := hbw4.trans (hb5.mono (by omega))
              have p1 := fun i => cell_of_row wc w.heap.size i _ _ _ own5.b1
              have y1 := fun i => frozen_of_row wc w.heap.size i _ _ own5.b1
              have p2 := fun i => cell_of_row wc (w.heap.size + 1) i _ _ _ own5.b2
              have y2 := fun i => frozen_of_row wc (w.heap.size + 1) i _ _ own5.b2
              have HD0 := Lib.hid hd0
              clear hd0 f1 z1 f2 f3 z3 f2' f2'' hsl
              obtain ⟨er, her⟩ : ∃ er, er = lineE kk r := ⟨_, rfl⟩
              rw [← her]
              have HER := Lib.hid her
              clear her
              by_cases he0 : er = 0
              · have e0 : (er != 0) = false := by simp [he0]
                have HD := Lib.hid (HD0.out (HER.out.symm.trans he0))
                have HE0 := Lib.hid he0
                clear he0
                go_wp2
                go_roundw
                case rel =>
                  have hd := HD.out
                  subst hd
                  have ho : oneLine st ((c0 :: x') :: r) = (0, ⟨lineD st.c kk r, (kk : Int) :: st.seen⟩) := by
                    have := one_good (st := st) (x := c0 :: x') (r := r) hno.out hz0.out (by rw [HKK.out]; exact HSK.out.symm) (by rw [HKK.out, ← HER.out]; exact HE0.out)
                    rw [HKK.out] at this
                    exact this
                  have hi := hinv.step (ws := (c0 :: x') :: r) (by have := HM.out; omega) (by rw [ho])
                  rw [ho] at hi
                  have hl5 : RdP wc (NewP (w.heap.size + 3) wr) 1 (some ad) n (strsV L) := (hrl3.setCell (a := ⟨w.heap.size + 1 + 1, kk, none⟩) (by rintro ⟨h1, _⟩; simp at h1; omega) (.bool true)).keep (fun b h => hb5.block b (Nat.lt_of_lt_of_le h.2 (by omega))) fun _ h => h
                  refine ⟨q + 1, ⟨lineD st.c kk r, (kk : Int) :: st.seen⟩, A5, cap5, by omega, by go_num, HGO.out.trans (go_step hx HY.out (by rw [← HWS.out]; exact ho)), hi, (set7_other (by omega)).trans own5.b1, set7 own5.b2, (set7_other (by omega)).trans own5.b3, hc5, ?_, ?_, ?_⟩
                  · refine hr5.keep (fun b hb => set7_other ?_) fun b hb => ⟨?_, ?_⟩
                    · rcases hb.1 with h | h
                      · have := h.1; omega
                      · omega
                    · rcases hb.1 with h | h
                      · exact h.1
                      · omega
                    · have := hb.2; simpa using this
                  · refine hl5.keep (fun b hb => set7_other ?_) fun b hb => ⟨hb.1, ?_⟩
                    · have := hb.1; omega
                    · have := hb.2; simp; omega
                  · exact (by repeat (first | (with_reducible assumption) | (with_reducible exact Below.refl _ _) | (with_reducible refine Below.drewN ?_ _) | (with_reducible refine Below.drew ?_) | (with_reducible refine Below.setCell ?_ (by first | omega | (simp; done) | (simp; omega) | (simp [World.setCell]; done) | (simp [World.setCell]; omega)) _) | (with_reducible refine Below.alloc ?_ (by first | omega | (simp; done) | (simp; omega) | (simp [World.setCell]; done) | (simp [World.setCell]; omega)) _)))
                case measure => simp [intOf]; omega
              · have e0 : (er != 0) = true := by simp [he0]
                have HE : Hid (R = (Cf.zero, er, (q : Int) + 1)) := HR.out.trans (readS_err (by rw [← size_eq]; exact h512) (by rw [← HL.out]; exact HGO.out.trans (go_err hx HY.out (by rw [← HWS.out, one_bad hno.out hz0.out (by rw [HKK.out]; exact HSK.out.symm) (by rw [HKK.out]; rw [HER.out] at he0; exact he0), HKK.out, HER.out]) he0)) he0)
                go_wp2
                exact bodyPost_ret (v := .tuple #[Cf.v Cf.zero none 0, .int .i64 er, .int .i64 ((q : Int) + 1)]) (by simp [results, Tryd.results10, go_sem, Cf.zero, p1]) rfl (ReadRet.err HE.out rfl (by repeat (first | (with_reducible assumption) | (with_reducible exact Below.refl _ _) | (with_reducible refine Below.drewN ?_ _) | (with_reducible refine Below.drew ?_) | (with_reducible refine Below.setCell ?_ (by first | omega | (simp; done) | (simp; omega) | (simp [World.setCell]; done) | (simp [World.setCell]; omega)) _) | (with_reducible refine Below.alloc ?_ (by first | omega | (simp; done) | (simp; omega) | (simp [World.setCell]; done) | (simp [World.setCell]; omega)) _))))
    · have HF : Hid (R = finish st) := HR.out.trans (readS_ok (by rw [← size_eq]; exact h512) (by rw [← HL.out]; exact HGO.out.trans (go_end (by rw [← HN.out]; omega))))
      have hown : Own3 wr w.heap.size st A' cap' := ⟨b1, b2, b3⟩
      have l3 : w.heap.size + 1 + 1 < wr.heap.size := (Array.getElem?_eq_some_iff.1 b3).1
      have f1 := fun i => cell_of_row wr w.heap.size i _ _ _ b1
      have f2 := fun i => cell_of_row wr (w.heap.size + 1) i _ _ _ b2
      have f3 := fun i => cell_of_row wr (w.heap.size + 1 + 1) i _ _ _ b3
      have z1 := fun i => frozen_of_row wr w.heap.size i _ _ b1
      have z2 := fun i => frozen_of_row wr (w.heap.size + 1) i _ _ b2
      clear b1 b2 b3
      obtain ⟨s1, hs1⟩ : ∃ b, b = st.seen.contains (1 : Int) := ⟨_, rfl⟩
      obtain ⟨s4, hs4⟩ : ∃ b, b = st.seen.contains (4 : Int) := ⟨_, rfl⟩
      obtain ⟨s6, hs6⟩ : ∃ b, b = st.seen.contains (6 : Int) := ⟨_, rfl⟩
      have k1 : wr.cell? ⟨w.heap.size + 1 + 1, 1, none⟩ = some (.bool s1) := by rw [f3, hs1]; rfl
      have k4 : wr.cell? ⟨w.heap.size + 1 + 1, 4, none⟩ = some (.bool s4) := by rw [f3, hs4]; rfl
      have k6 : wr.cell? ⟨w.heap.size + 1 + 1, 6, none⟩ = some (.bool s6) := by rw [f3, hs6]; rfl
      have HS1 := Lib.hid hs1
      have HS4 := Lib.hid hs4
      have HS6 := Lib.hid hs6
      clear f3 hs1 hs4 hs6
      have none_case : (¬ (s1 = true ∧ s6 = true)) → R = (Cf.zero, 32, 0) := fun h => HF.out.trans (finish_none (by rw [← HS1.out, ← HS6.out]; exact h))
      have HNC := Lib.hid none_case
      clear none_case
      cases s1 with
      | false =>
        have HE := Lib.hid (HNC.out (by simp))
        go_wp2
        exact bodyPost_ret (v := .tuple #[Cf.v Cf.zero none 0, .int .i64 32, .int .i64 0]) (by simp [results, Tryd.results10, go_sem, Cf.zero, f1]) rfl (ReadRet.err HE.out rfl (by repeat (first | (with_reducible assumption) | (with_reducible exact Below.refl _ _) | (with_reducible refine Below.drewN ?_ _) | (with_reducible refine Below.drew ?_) | (with_reducible refine Below.setCell ?_ (by first | omega | (simp; done) | (simp; omega) | (simp [World.setCell]; done) | (simp [World.setCell]; omega)) _) | (with_reducible refine Below.alloc ?_ (by first | omega | (simp; done) | (simp; omega) | (simp [World.setCell]; done) | (simp [World.setCell]; omega)) _))))
      | true =>
      cases s6 with
      | false =>
        have HE := Lib.hid (HNC.out (by simp))
        go_wp2
        exact bodyPost_ret (v := .tuple #[Cf.v Cf.zero none 0, .int .i64 32, .int .i64 0]) (by simp [results, Tryd.results10, go_sem, Cf.zero, f1]) rfl (ReadRet.err HE.out rfl (by repeat (first | (with_reducible assumption) | (with_reducible exact Below.refl _ _) | (with_reducible refine Below.drewN ?_ _) | (with_reducible refine Below.drew ?_) | (with_reducible refine Below.setCell ?_ (by first | omega | (simp; done) | (simp; omega) | (simp [World.setCell]; done) | (simp [World.setCell]; omega)) _) | (with_reducible refine Below.alloc ?_ (by first | omega | (simp; done) | (simp; omega) | (simp [World.setCell]; done) | (simp [World.setCell]; omega)) _))))
      | true =>
      have hso := hinv.so HS1.out.symm
      cases s4 with
      | true =>
        have H4 := Lib.hid (finish_four ⟨HS1.out.symm, HS6.out.symm⟩ HS4.out.symm)
        by_cases hle : (st.c.we.length : Int) = st.c.so
        · have hle1 : ((st.c.we.length : Int) != st.c.so) = false := by simp [hle]
          have HE : Hid (R = (st.c, 0, 0)) := by show R = _; rw [HF.out, H4.out, if_pos hle]
          clear hle
          have hrn : RdP wr (NewP (w.heap.size + 3) wr) 1 A' st.c.we.length (intsV st.c.we) := hrc
          go_wp2
          refine bodyPost_ret (v := .tuple #[Cf.v st.c A' cap', .int .i64 0, .int .i64 0]) (by simp [results, Tryd.results10, go_sem, f1, f2]) rfl ?_
          rw [HE.out]
          refine ⟨A', cap', rfl, hc', ?_, (by repeat (first | (with_reducible assumption) | (with_reducible exact Below.refl _ _) | (with_reducible refine Below.drewN ?_ _) | (with_reducible refine Below.drew ?_) | (with_reducible refine Below.setCell ?_ (by first | omega | (simp; done) | (simp; omega) | (simp [World.setCell]; done) | (simp [World.setCell]; omega)) _) | (with_reducible refine Below.alloc ?_ (by first | omega | (simp; done) | (simp; omega) | (simp [World.setCell]; done) | (simp [World.setCell]; omega)) _)))⟩
          exact hrn.keep (fun b hb => set7_other (by have := hb.1; omega)) fun b hb => ⟨by have := hb.1; omega, by have := hb.2; simpa using this⟩
        · have hle1 : ((st.c.we.length : Int) != st.c.so) = true := by simp [hle]
          have HE : Hid (R = (Cf.zero, 34, 0)) := by show R = _; rw [HF.out, H4.out, if_neg hle]
          go_wp2
          exact bodyPost_ret (v := .tuple #[Cf.v Cf.zero none 0, .int .i64 34, .int .i64 0]) (by simp [results, Tryd.results10, go_sem, Cf.zero, f1]) rfl (ReadRet.err HE.out rfl (by repeat (first | (with_reducible assumption) | (with_reducible exact Below.refl _ _) | (with_reducible refine Below.drewN ?_ _) | (with_reducible refine Below.drew ?_) | (with_reducible refine Below.setCell ?_ (by first | omega | (simp; done) | (simp; omega) | (simp [World.setCell]; done) | (simp [World.setCell]; omega)) _) | (with_reducible refine Below.alloc ?_ (by first | omega | (simp; done) | (simp; omega) | (simp [World.setCell]; done) | (simp [World.setCell]; omega)) _))))
      | false =>
        have HE := Lib.hid (HF.out.trans (finish_ones ⟨HS1.out.symm, HS6.out.symm⟩ HS4.out.symm (by omega)))
        obtain ⟨ns, hns⟩ := Int.eq_ofNat_of_zero_le (show 0 ≤ st.c.so by omega)
        have hns8 : ns ≤ 8 := by omega
        have HNS := Lib.hid hns
        obtain ⟨so, hso2⟩ : ∃ so, so = st.c.so := ⟨_, rfl⟩
        rw [← hso2] at hns f2
        subst hns
        have HSO := Lib.hid hso2
        clear hso2 hso
        go_wp2
        obtain ⟨wo, rfl⟩ : ∃ wo : World, wo = wr := ⟨_, rfl⟩
        go_loopw [13, 14] (fun v i wq => ∃ p : Nat, p ≤ ns ∧ i = .int .i64 p ∧ wq.ownsRow wo.heap.size 3 1 v p (intsV (List.replicate p 1)) ∧ Below wo.heap.size wo wq) (fun _ i _ => ns - (intOf i).toNat)
        case atStart => exact ⟨0, Nat.zero_le _, rfl, World.ownsRow_nil _ _ _ _, Below.refl _ _⟩
        case round =>
          obtain ⟨p, hp, rfl, hown2, hbq⟩ := hrel
          have own5 := hown.below hbq (by omega)
          have p2 := fun i => cell_of_row wr (w.heap.size + 1) i _ _ _ own5.b2
          have p2' := fun i => p2 i
          simp only [← HSO.out] at p2
          have hBq := hbq.size
          clear f1 f2 z1 z2 k1 k4 k6 p2'
          by_cases hlt : p < ns
          · go_wp2_with (at_builtin; refine wpList_app1 El23 rfl _ _ rfl rfl hown2 rfl rfl (by simp [Value.oneCell']) (by omega) hBq hbq ?_; intro v' w2 hown' hb')
            go_roundw
            case rel => exact ⟨p + 1, by omega, by go_num, by rw [List.replicate_succ', intsV_snoc]; exact hown', hb'⟩
            case measure => simp [intOf]; omega
          · obtain rfl : p = ns := by omega
            have y2 := fun i => frozen_of_row wr (w.heap.size + 1) i _ _ own5.b2
            have p1 := fun i => cell_of_row wr w.heap.size i _ _ _ own5.b1
            have y1 := fun i => frozen_of_row wr w.heap.size i _ _ own5.b1
            obtain ⟨A9, c9, rfl, hc9, hr9⟩ := RdP.of_own hown2
            have HR9 := Lib.hid hr9
            have hbwq : Below w.heap.size w wr := hbw.trans (hbq.mono (by omega))
            have hle : ((p : Int) != (p : Int)) = false := by simp
            clear hown2 hr9 hbq
            go_wp2
            have hones : ones st.c.so = List.replicate p 1 := by rw [HNS.out]; simp [ones]
            have hd : ({ st.c with we := ones st.c.so } : Cf) = ⟨p, st.c.ro, st.c.ol, List.replicate p 1, st.c.qu, st.c.ti, st.c.pa⟩ := by
              rw [hones]; have := HNS.out; cases hst : st.c; simp [hst] at this ⊢; exact this
            refine bodyPost_ret (v := .tuple #[cfv p st.c.ro st.c.ol A9 p c9 st.c.qu st.c.ti st.c.pa, .int .i64 0, .int .i64 0]) (by simp [results, Tryd.results10, go_sem, p1, p2]) rfl ?_
            rw [HE.out, hd]
            refine ⟨A9, c9, by simp [Cf.v], by simpa using hc9, ?_, (by repeat (first | (with_reducible assumption) | (with_reducible exact Below.refl _ _) | (with_reducible refine Below.drewN ?_ _) | (with_reducible refine Below.drew ?_) | (with_reducible refine Below.setCell ?_ (by first | omega | (simp; done) | (simp; omega) | (simp [World.setCell]; done) | (simp [World.setCell]; omega)) _) | (with_reducible refine Below.alloc ?_ (by first | omega | (simp; done) | (simp; omega) | (simp [World.setCell]; done) | (simp [World.setCell]; omega)) _)))⟩
            simp only [List.length_replicate]
            have hlo : w.heap.size + 1 < wo.heap.size := by omega
            exact HR9.out.keep (fun b hb => (set7_other (by have := hb.1; omega)).trans (Below.heap_setCell _ _ _ _ (by have := hb.1; simp; omega))) fun b hb => ⟨by have := hb.1; omega, by have := hb.2; simpa using this⟩
end Go.Proofs.YtmmmepmjmofbjaaDoor
