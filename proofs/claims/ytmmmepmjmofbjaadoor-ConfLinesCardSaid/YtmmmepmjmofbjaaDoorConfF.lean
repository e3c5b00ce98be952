/- lookoutref17.set: a configuration with a setting. -/
import Derived.Test.YtmmmepmjmofbjaaDoorProg
import Derived.Test.YtmmmepmjmofbjaaDoorInf
import Derived.Test.YtmmmepmjmofbjaaDoorConfA
import Derived.Test.YtmmmepmjmofbjaaDoorConfC
set_option linter.unusedVariables false
namespace Go.Proofs.YtmmmepmjmofbjaaDoor
open Go Go.RowKit

/-- a configuration -/
structure Cf where
  so : Int
  ro : Int
  ol : Bool
  we : List Int
  qu : Int
  ti : Int
  pa : Int
abbrev Cf.v (c : Cf) (A : Option Addr) (cap : Nat) : Value := cfv c.so c.ro c.ol A c.we.length cap c.qu c.ti c.pa

/-- what is answered is a configuration, in memory below B or in new memory -/
def CfRet (w : World) (p : Nat → Prop) (c : Cf) (e : Ending) (w' : World) : Prop :=
  ∃ A cap, e = .returned (c.v A cap) ∧ c.we.length ≤ cap ∧ RdP w' (OutP p w.heap.size w') 1 A c.we.length (intsV c.we) ∧ Below w.heap.size w w'
theorem CfRet.old {w w' : World} {p : Nat → Prop} {c : Cf} {v : Value} {A : Option Addr} {cap : Nat} (hv : v = c.v A cap) (hcap : c.we.length ≤ cap) (hr : RdP w p 1 A c.we.length (intsV c.we)) (hB : ∀ b, p b → b < w.heap.size) (hb : Below w.heap.size w w') : CfRet w p c (.returned v) w' :=
  ⟨A, cap, by rw [hv], hcap, hr.keep (fun b h => hb.block b (hB b h)) fun b h => ⟨.inl h, by have := hb.size; have := hB b h; omega⟩, hb⟩
theorem CfRet.own {w w' : World} {p : Nat → Prop} {B1 : Nat} {c : Cf} {v : Value} {A : Option Addr} {cap : Nat} {e : TypeId} (hv : v = c.v A cap) (hr : w'.ownsRow B1 e 1 (.slice A c.we.length cap) c.we.length (intsV c.we)) (hB1 : w.heap.size ≤ B1) (hb : Below w.heap.size w w') : CfRet w p c (.returned v) w' := by
  obtain ⟨A2, c2, hv2, hc2, hr2⟩ := RdP.of_own hr
  injection hv2 with hA _ hcc
  subst hA; subst hcc
  exact ⟨A, cap, by rw [hv], hc2, hr2.mono fun b h => ⟨.inr (Nat.le_trans hB1 h.1), h.2⟩, hb⟩

def setC (c : Cf) (k : Int) (l : List Int) : Cf :=
  if k = 1 then { c with so := l.headD 0 } else if k = 2 then { c with ro := l.headD 0 } else if k = 4 then { c with we := l } else
  if k = 5 then { c with qu := l.headD 0 } else if k = 6 then { c with ti := l.headD 0 } else if k = 7 then { c with pa := l.headD 0 } else c

theorem El23 : El Tryd.prog 23 3 (.int .i64 0) 1 8 := ⟨by kernel_rfl, by kernel_rfl, rfl, by decide, by decide⟩
theorem El63 : El Tryd.prog 63 2 (.int .i64 0) 1 8 := ⟨by kernel_rfl, by kernel_rfl, rfl, by decide, by decide⟩

theorem bodyPost_cell {P : Program} {fn : Func} {R : Ending → World → Prop} {a : Act} {w : World} {v : Value} (hr : (results fn a.tmps).run P w = .ok v w) (hd : a.defers = []) (h : R (.returned v) w) : bodyPost P fn R .ret a w := bodyPost_ret hr hd h

set_option maxHeartbeats 3200000 in
theorem set_any (c : Cf) (p : Nat → Prop) (A : Option Addr) (cap : Nat) (k : Int) (l : List Int) (L : Option Addr) (cl : Nat) (w : World) (hl : l.length ≤ 1000000) (h0 : 0 < l.length)
    (hR : RdP w p 1 A c.we.length (intsV c.we)) (hBw : ∀ b, p b → b < w.heap.size) (hL : Reads w w.heap.size 1 L l.length (intsV l)) (hcap : c.we.length ≤ cap) (h3 : k ≠ 3) :
    Calls Tryd.prog 42 #[c.v A cap, .int .i64 k, .slice L l.length cl] w (CfRet w p (setC c k l)) := by
  obtain ⟨so, ro, ol, we, qu, ti, pa⟩ := c
  simp only at hR hcap
  obtain ⟨ad, rfl, hb, hc⟩ := hL.2 h0
  obtain ⟨x, r, rfl⟩ : ∃ x r, l = x :: r := by cases l with | nil => simp at h0 | cons x r => exact ⟨x, r, rfl⟩
  have g0 : w.cell? (ad.add 0) = some (.int .i64 x) := hc 0 _ (by simp [intsV])
  have g1 : ∀ o1 o2, ((w.alloc o1).alloc o2).cell? ad = some (.int .i64 x) := fun o1 o2 => by
    rw [World.cell?_alloc_lt _ _ _ (by simp; omega), World.cell?_alloc_lt _ _ _ hb]
    simpa [Addr.add] using g0
  clear g0
  by_cases h4 : k = 4
  · subst h4
    have hc1 : ∀ wr : World, Below w.heap.size w wr → ∀ j u, (intsV (x :: r))[j]? = some u → wr.cell? (ad.add j) = some u := fun wr hbl j u hu => (hbl.cell (by rw [block_of_add]; exact hb)).trans (hc j u hu)
    have HC := Lib.hid hc1
    clear hc1 hc
    obtain ⟨n, hn⟩ : ∃ n, n = (x :: r).length := ⟨_, rfl⟩
    rw [← hn] at hl h0 ⊢
    have HN := Lib.hid hn
    clear hn
    go_enter Tryd.func42, Tryd.ntmps42
    go_wp2
    go_loopw [7, 8] (fun v i wr => ∃ q : Nat, q ≤ n ∧ i = .int .i64 q ∧ wr.ownsRow (w.heap.size + 2) 3 1 v q (intsV ((x :: r).take q)) ∧
        Below (w.heap.size + 2) ((w.alloc (.cells #[.int .i64 so, .int .i64 ro, .bool ol, .slice A we.length cap, .int .i64 qu, .int .i64 ti, .int .i64 pa] 29)).alloc (.cells #[.int .i64 0, .int .i64 0, .bool false, .slice none 0 0, .int .i64 0, .int .i64 0, .int .i64 0] 29)) wr)
      (fun _ i _ => n - (intOf i).toNat)
    case atStart => exact ⟨0, Nat.zero_le _, rfl, World.ownsRow_nil _ _ _ _, Below.refl _ _⟩
    case round =>
      obtain ⟨q, hq, rfl, hown, hbl⟩ := hrel
      have hB := hbl.size
      have hB' : w.heap.size + 2 ≤ wr.heap.size := by simpa using hB
      clear hB
      have hbw : Below w.heap.size w wr := Below.trans (((Below.refl _ _).alloc (Nat.le_refl _) _).alloc (by simp) _) (hbl.mono (by omega))
      by_cases hlt : q < n
      · have hx : q < (x :: r).length := by rw [← HN.out]; exact hlt
        have g2 := HC.out wr hbw q (.int .i64 (x :: r)[q]) (intsV_get hx)
        have HS := Lib.hid (List.take_succ_eq_append_getElem hx)
        go_wp2_with (at_builtin; refine wpList_app1 El23 rfl _ _ rfl rfl hown rfl rfl (by simp [Value.oneCell']) (by omega) hB' hbl ?_; intro v' w2 hown' hb')
        go_roundw
        case rel => exact ⟨q + 1, by omega, by go_num, by rw [HS.out, intsV_snoc]; exact hown', hb'⟩
        case measure => simp [intOf]; omega
      · have e1 : wr.heap[w.heap.size]? = some (.cells #[.int .i64 so, .int .i64 ro, .bool ol, .slice A we.length cap, .int .i64 qu, .int .i64 ti, .int .i64 pa] 29 (0, 0)) := by
          rw [hbl.block _ (by omega), Below.heap_alloc _ _ _ (by simp)]; exact heap_alloc_new w _
        have e2 : wr.heap[w.heap.size + 1]? = some (.cells #[.int .i64 0, .int .i64 0, .bool false, .slice none 0 0, .int .i64 0, .int .i64 0, .int .i64 0] 29 (0, 0)) := by
          rw [hbl.block _ (by omega)]
          have := heap_alloc_new (w.alloc (.cells #[.int .i64 so, .int .i64 ro, .bool ol, .slice A we.length cap, .int .i64 qu, .int .i64 ti, .int .i64 pa] 29)) (.cells #[.int .i64 0, .int .i64 0, .bool false, .slice none 0 0, .int .i64 0, .int .i64 0, .int .i64 0] 29)
          simpa using this
        have f1 := fun i => cell_of_row wr w.heap.size i _ _ _ e1
        have f2 := fun i => cell_of_row wr (w.heap.size + 1) i _ _ _ e2
        have z1 := fun i => frozen_of_row wr w.heap.size i _ _ e1
        have z2 := fun i => frozen_of_row wr (w.heap.size + 1) i _ _ e2
        have e3 : (x :: r).take q = x :: r := List.take_of_length_le (by rw [← HN.out]; omega)
        rw [e3] at hown
        obtain ⟨A', c', rfl, hc', hr'⟩ := Reads.of_own hown
        have HO := Lib.hid hown
        clear e3 hown hr'
        go_wp2
        obtain rfl : q = n := by omega
        have hn := HN.out
        have es : setC ⟨so, ro, ol, we, qu, ti, pa⟩ 4 (x :: r) = ⟨so, ro, ol, x :: r, qu, ti, pa⟩ := by simp [setC]
        rw [es]
        refine bodyPost_ret (v := cfv so ro ol A' q c' qu ti pa) (by simp [results, Tryd.results42, go_sem, f1, f2]) rfl (CfRet.own (A := A') (cap := c') (B1 := w.heap.size + 2) (e := 3) (by rw [hn]) ?_ (by omega) (by repeat (first | (with_reducible assumption) | (with_reducible exact Below.refl _ _) | (with_reducible refine Below.drewN ?_ _) | (with_reducible refine Below.drew ?_) | (with_reducible refine Below.setCell ?_ (by first | omega | (simp; done) | (simp; omega) | (simp [World.setCell]; done) | (simp [World.setCell]; omega)) _) | (with_reducible refine Below.alloc ?_ (by first | omega | (simp; done) | (simp; omega) | (simp [World.setCell]; done) | (simp [World.setCell]; omega)) _))))
        rw [← hn]
        repeat (first | (with_reducible exact HO.out) | (with_reducible refine ownsRow_setCell_below ?_ (by simp) _))
  · have b4 : (k == 4) = false := by rw [beq_eq_false_iff_ne]; exact h4
    by_cases k1 : k = 1
    · subst k1
      go_enter Tryd.func42, Tryd.ntmps42
      go_wp2
      exact bodyPost_ret (v := (Cf.mk x ro ol we qu ti pa).v A cap) (by simp [results, Tryd.results42, go_sem]) rfl (CfRet.old (A := A) (cap := cap) (by simp [setC]) (by simpa [setC] using hcap) (by simpa [setC] using hR) hBw (by repeat (first | (with_reducible assumption) | (with_reducible exact Below.refl _ _) | (with_reducible refine Below.drewN ?_ _) | (with_reducible refine Below.drew ?_) | (with_reducible refine Below.setCell ?_ (by first | omega | (simp; done) | (simp; omega) | (simp [World.setCell]; done) | (simp [World.setCell]; omega)) _) | (with_reducible refine Below.alloc ?_ (by first | omega | (simp; done) | (simp; omega) | (simp [World.setCell]; done) | (simp [World.setCell]; omega)) _))))
    have c1 : (k == 1) = false := by rw [beq_eq_false_iff_ne]; exact k1
    by_cases k2 : k = 2
    · subst k2
      go_enter Tryd.func42, Tryd.ntmps42
      go_wp2
      exact bodyPost_ret (v := (Cf.mk so x ol we qu ti pa).v A cap) (by simp [results, Tryd.results42, go_sem]) rfl (CfRet.old (A := A) (cap := cap) (by simp [setC]) (by simpa [setC] using hcap) (by simpa [setC] using hR) hBw (by repeat (first | (with_reducible assumption) | (with_reducible exact Below.refl _ _) | (with_reducible refine Below.drewN ?_ _) | (with_reducible refine Below.drew ?_) | (with_reducible refine Below.setCell ?_ (by first | omega | (simp; done) | (simp; omega) | (simp [World.setCell]; done) | (simp [World.setCell]; omega)) _) | (with_reducible refine Below.alloc ?_ (by first | omega | (simp; done) | (simp; omega) | (simp [World.setCell]; done) | (simp [World.setCell]; omega)) _))))
    have c2 : (k == 2) = false := by rw [beq_eq_false_iff_ne]; exact k2
    by_cases k5 : k = 5
    · subst k5
      go_enter Tryd.func42, Tryd.ntmps42
      go_wp2
      exact bodyPost_ret (v := (Cf.mk so ro ol we x ti pa).v A cap) (by simp [results, Tryd.results42, go_sem]) rfl (CfRet.old (A := A) (cap := cap) (by simp [setC]) (by simpa [setC] using hcap) (by simpa [setC] using hR) hBw (by repeat (first | (with_reducible assumption) | (with_reducible exact Below.refl _ _) | (with_reducible refine Below.drewN ?_ _) | (with_reducible refine Below.drew ?_) | (with_reducible refine Below.setCell ?_ (by first | omega | (simp; done) | (simp; omega) | (simp [World.setCell]; done) | (simp [World.setCell]; omega)) _) | (with_reducible refine Below.alloc ?_ (by first | omega | (simp; done) | (simp; omega) | (simp [World.setCell]; done) | (simp [World.setCell]; omega)) _))))
    have c5 : (k == 5) = false := by rw [beq_eq_false_iff_ne]; exact k5
    by_cases k6 : k = 6
    · subst k6
      go_enter Tryd.func42, Tryd.ntmps42
      go_wp2
      exact bodyPost_ret (v := (Cf.mk so ro ol we qu x pa).v A cap) (by simp [results, Tryd.results42, go_sem]) rfl (CfRet.old (A := A) (cap := cap) (by simp [setC]) (by simpa [setC] using hcap) (by simpa [setC] using hR) hBw (by repeat (first | (with_reducible assumption) | (with_reducible exact Below.refl _ _) | (with_reducible refine Below.drewN ?_ _) | (with_reducible refine Below.drew ?_) | (with_reducible refine Below.setCell ?_ (by first | omega | (simp; done) | (simp; omega) | (simp [World.setCell]; done) | (simp [World.setCell]; omega)) _) | (with_reducible refine Below.alloc ?_ (by first | omega | (simp; done) | (simp; omega) | (simp [World.setCell]; done) | (simp [World.setCell]; omega)) _))))
    have c6 : (k == 6) = false := by rw [beq_eq_false_iff_ne]; exact k6
    by_cases k7 : k = 7
    · subst k7
      go_enter Tryd.func42, Tryd.ntmps42
      go_wp2
      exact bodyPost_ret (v := (Cf.mk so ro ol we qu ti x).v A cap) (by simp [results, Tryd.results42, go_sem]) rfl (CfRet.old (A := A) (cap := cap) (by simp [setC]) (by simpa [setC] using hcap) (by simpa [setC] using hR) hBw (by repeat (first | (with_reducible assumption) | (with_reducible exact Below.refl _ _) | (with_reducible refine Below.drewN ?_ _) | (with_reducible refine Below.drew ?_) | (with_reducible refine Below.setCell ?_ (by first | omega | (simp; done) | (simp; omega) | (simp [World.setCell]; done) | (simp [World.setCell]; omega)) _) | (with_reducible refine Below.alloc ?_ (by first | omega | (simp; done) | (simp; omega) | (simp [World.setCell]; done) | (simp [World.setCell]; omega)) _))))
    have c7 : (k == 7) = false := by rw [beq_eq_false_iff_ne]; exact k7
    have HS := Lib.hid (show setC ⟨so, ro, ol, we, qu, ti, pa⟩ k (x :: r) = ⟨so, ro, ol, we, qu, ti, pa⟩ by simp [setC, k1, k2, h4, k5, k6, k7])
    clear k1 k2 h4 k5 k6 k7 h3
    go_enter Tryd.func42, Tryd.ntmps42
    go_wp2
    exact bodyPost_ret (v := (Cf.mk so ro ol we qu ti pa).v A cap) (by simp [results, Tryd.results42, go_sem]) rfl (CfRet.old (A := A) (cap := cap) (by rw [HS.out]) (by rw [HS.out]; exact hcap) (by rw [HS.out]; exact hR) hBw (by repeat (first | (with_reducible assumption) | (with_reducible exact Below.refl _ _) | (with_reducible refine Below.drewN ?_ _) | (with_reducible refine Below.drew ?_) | (with_reducible refine Below.setCell ?_ (by first | omega | (simp; done) | (simp; omega) | (simp [World.setCell]; done) | (simp [World.setCell]; omega)) _) | (with_reducible refine Below.alloc ?_ (by first | omega | (simp; done) | (simp; omega) | (simp [World.setCell]; done) | (simp [World.setCell]; omega)) _))))
end Go.Proofs.YtmmmepmjmofbjaaDoor
