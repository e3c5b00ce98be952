/- What each setting takes. -/
import Derived.Test.YtmmmepmjmofbjaaDoorProg
import Derived.Test.YtmmmepmjmofbjaaDoorInf
import Derived.Test.YtmmmepmjmofbjaaDoorConfF
import Derived.Test.YtmmmepmjmofbjaaDoorConfK
import Derived.Shelf.Abstract
set_option linter.unusedVariables false
namespace Go.Proofs.YtmmmepmjmofbjaaDoor
open Go Go.RowKit

/-- a configuration in a variable -/
def ConfAt (w : World) (b : Nat) (c : Cf) (A : Option Addr) (cap : Nat) : Prop :=
  w.heap[b]? = some (.cells #[.int .i64 c.so, .int .i64 c.ro, .bool c.ol, .slice A c.we.length cap, .int .i64 c.qu, .int .i64 c.ti, .int .i64 c.pa] 25 (0, 0))
/-- all that lay in w lies in w', but block b -/
structure But (b : Nat) (w w' : World) : Prop where
  os : w'.os = w.os
  tape : w'.tape = w.tape
  output : w'.output = w.output
  size : w.heap.size ≤ w'.heap.size
  block : ∀ k, k < w.heap.size → k ≠ b → w'.heap[k]? = w.heap[k]?
section
variable {b : Nat} {w w' w'' : World}
theorem But.refl (b : Nat) (w : World) : But b w w := ⟨rfl, rfl, rfl, Nat.le_refl _, fun _ _ _ => rfl⟩
theorem But.trans (h : But b w w') (k : But b w' w'') : But b w w'' :=
  ⟨k.os.trans h.os, k.tape.trans h.tape, k.output.trans h.output, Nat.le_trans h.size k.size, fun i hi hb => (k.block i (Nat.lt_of_lt_of_le hi h.size) hb).trans (h.block i hi hb)⟩
theorem But.of_below (h : Below w.heap.size w w') : But b w w' := ⟨h.os, h.tape, h.output, h.size, fun k hk _ => h.block k hk⟩
theorem But.setCell (h : But b w w') {a : Addr} (ha : a.block = b) (u : Value) : But b w (w'.setCell a u) :=
  ⟨h.os, h.tape, h.output, by simpa [World.setCell] using h.size, fun k hk hb => (Below.heap_setCell _ _ _ _ (by rw [ha]; exact hb)).trans (h.block k hk hb)⟩
theorem But.then_below (h : But b w w') (k : Below w.heap.size w' w'') : But b w w'' :=
  ⟨k.os.trans h.os, k.tape.trans h.tape, k.output.trans h.output, Nat.le_trans h.size k.size, fun i hi hb => (k.block i hi).trans (h.block i hi hb)⟩
theorem But.below (h : But b w w') {B : Nat} (hB : B ≤ b) (hB2 : B ≤ w.heap.size) : Below B w w' := ⟨h.os, h.tape, h.output, h.size, fun k hk => h.block k (by omega) (by omega)⟩
end
/-- a configuration in which a setting took its numbers -/
def takeC (c : Cf) (k : Nat) (l : List Int) : Cf :=
  match k with
  | 0 => { c with so := l.headD 0 } | 1 => { c with ro := l.headD 0 } | 2 => { c with ol := l.headD 0 == 1 } | 3 => { c with we := l }
  | 4 => { c with qu := l.headD 0 } | 5 => { c with ti := l.headD 0 } | _ => { c with pa := l.headD 0 }
def TakeRet (w : World) (b : Nat) (c : Cf) (A : Option Addr) (cap k : Nat) (l : List Int) (e : Ending) (w' : World) : Prop :=
  e = .returned (.tuple #[]) ∧ ∃ A' cap', ConfAt w' b (takeC c k l) A' cap' ∧ (k ≠ 3 → A' = A ∧ cap' = cap) ∧ (k = 3 → RdP w' (NewP w.heap.size w') 1 A' l.length (intsV l) ∧ l.length ≤ cap') ∧ But b w w'
theorem TakeRet.same {w w' : World} {b : Nat} {c : Cf} {A : Option Addr} {cap k : Nat} {l : List Int} {e : Ending} (he : e = .returned (.tuple #[])) (hk : k ≠ 3) (hc : ConfAt w' b (takeC c k l) A cap) (hb : But b w w') : TakeRet w b c A cap k l e w' :=
  ⟨he, A, cap, hc, fun _ => ⟨rfl, rfl⟩, fun h => absurd h hk, hb⟩

theorem take0_any (c : Cf) (A : Option Addr) (cap b : Nat) (l : List Int) (L : Option Addr) (cl : Nat) (w : World) (h0 : 0 < l.length) (hl : l.length ≤ 1000000) (hL : Reads w w.heap.size 1 L l.length (intsV l)) (hc : ConfAt w b c A cap) (hA : 0 = 3 → A = none ∧ cap = 0) :
    Calls Tryd.prog 43 #[.pointer (some ⟨b, 0, none⟩), .slice L l.length cl] w (TakeRet w b c A cap 0 l) := by
  obtain ⟨so, ro, ol, we, qu, ti, pa⟩ := c
  obtain ⟨ad, rfl, hb, hcell⟩ := hL.2 h0
  obtain ⟨x, r, rfl⟩ : ∃ x r, l = x :: r := by cases l with | nil => simp at h0 | cons x r => exact ⟨x, r, rfl⟩
  have g0 : w.cell? (ad.add 0) = some (.int .i64 x) := hcell 0 _ (by simp [intsV])
  have g1 : w.cell? ad = some (.int .i64 x) := by simpa [Addr.add] using g0
  have f1 := fun i => cell_of_row w b i _ _ _ hc
  have z1 := fun i => frozen_of_row w b i _ _ hc
  clear g0 hcell hA
  obtain ⟨n, hn⟩ : ∃ n, n = (x :: r).length := ⟨_, rfl⟩
  rw [← hn] at hl h0 ⊢
  clear hn
  have HC := Lib.hid hc
  clear hc hL
  go_enter Tryd.func43, Tryd.ntmps43
  go_wp2
  go_end0
  refine TakeRet.same rfl ?_ ?_ (But.setCell (a := ⟨b, _, none⟩) (But.refl _ _) rfl _)
  · decide
  · exact (heap_setCell_same _ _ _ _ _ _ HC.out).trans rfl
theorem take1_any (c : Cf) (A : Option Addr) (cap b : Nat) (l : List Int) (L : Option Addr) (cl : Nat) (w : World) (h0 : 0 < l.length) (hl : l.length ≤ 1000000) (hL : Reads w w.heap.size 1 L l.length (intsV l)) (hc : ConfAt w b c A cap) (hA : 1 = 3 → A = none ∧ cap = 0) :
    Calls Tryd.prog 45 #[.pointer (some ⟨b, 0, none⟩), .slice L l.length cl] w (TakeRet w b c A cap 1 l) := by
  obtain ⟨so, ro, ol, we, qu, ti, pa⟩ := c
  obtain ⟨ad, rfl, hb, hcell⟩ := hL.2 h0
  obtain ⟨x, r, rfl⟩ : ∃ x r, l = x :: r := by cases l with | nil => simp at h0 | cons x r => exact ⟨x, r, rfl⟩
  have g0 : w.cell? (ad.add 0) = some (.int .i64 x) := hcell 0 _ (by simp [intsV])
  have g1 : w.cell? ad = some (.int .i64 x) := by simpa [Addr.add] using g0
  have f1 := fun i => cell_of_row w b i _ _ _ hc
  have z1 := fun i => frozen_of_row w b i _ _ hc
  clear g0 hcell hA
  obtain ⟨n, hn⟩ : ∃ n, n = (x :: r).length := ⟨_, rfl⟩
  rw [← hn] at hl h0 ⊢
  clear hn
  have HC := Lib.hid hc
  clear hc hL
  go_enter Tryd.func45, Tryd.ntmps45
  go_wp2
  go_end0
  refine TakeRet.same rfl ?_ ?_ (But.setCell (a := ⟨b, _, none⟩) (But.refl _ _) rfl _)
  · decide
  · exact (heap_setCell_same _ _ _ _ _ _ HC.out).trans rfl
theorem take2_any (c : Cf) (A : Option Addr) (cap b : Nat) (l : List Int) (L : Option Addr) (cl : Nat) (w : World) (h0 : 0 < l.length) (hl : l.length ≤ 1000000) (hL : Reads w w.heap.size 1 L l.length (intsV l)) (hc : ConfAt w b c A cap) (hA : 2 = 3 → A = none ∧ cap = 0) :
    Calls Tryd.prog 47 #[.pointer (some ⟨b, 0, none⟩), .slice L l.length cl] w (TakeRet w b c A cap 2 l) := by
  obtain ⟨so, ro, ol, we, qu, ti, pa⟩ := c
  obtain ⟨ad, rfl, hb, hcell⟩ := hL.2 h0
  obtain ⟨x, r, rfl⟩ : ∃ x r, l = x :: r := by cases l with | nil => simp at h0 | cons x r => exact ⟨x, r, rfl⟩
  have g0 : w.cell? (ad.add 0) = some (.int .i64 x) := hcell 0 _ (by simp [intsV])
  have g1 : w.cell? ad = some (.int .i64 x) := by simpa [Addr.add] using g0
  have f1 := fun i => cell_of_row w b i _ _ _ hc
  have z1 := fun i => frozen_of_row w b i _ _ hc
  clear g0 hcell hA
  obtain ⟨n, hn⟩ : ∃ n, n = (x :: r).length := ⟨_, rfl⟩
  rw [← hn] at hl h0 ⊢
  clear hn
  have HC := Lib.hid hc
  clear hc hL
  go_enter Tryd.func47, Tryd.ntmps47
  go_wp2
  go_end0
  refine TakeRet.same rfl ?_ ?_ (But.setCell (a := ⟨b, _, none⟩) (But.refl _ _) rfl _)
  · decide
  · exact (heap_setCell_same _ _ _ _ _ _ HC.out).trans rfl
theorem take4_any (c : Cf) (A : Option Addr) (cap b : Nat) (l : List Int) (L : Option Addr) (cl : Nat) (w : World) (h0 : 0 < l.length) (hl : l.length ≤ 1000000) (hL : Reads w w.heap.size 1 L l.length (intsV l)) (hc : ConfAt w b c A cap) (hA : 4 = 3 → A = none ∧ cap = 0) :
    Calls Tryd.prog 52 #[.pointer (some ⟨b, 0, none⟩), .slice L l.length cl] w (TakeRet w b c A cap 4 l) := by
  obtain ⟨so, ro, ol, we, qu, ti, pa⟩ := c
  obtain ⟨ad, rfl, hb, hcell⟩ := hL.2 h0
  obtain ⟨x, r, rfl⟩ : ∃ x r, l = x :: r := by cases l with | nil => simp at h0 | cons x r => exact ⟨x, r, rfl⟩
  have g0 : w.cell? (ad.add 0) = some (.int .i64 x) := hcell 0 _ (by simp [intsV])
  have g1 : w.cell? ad = some (.int .i64 x) := by simpa [Addr.add] using g0
  have f1 := fun i => cell_of_row w b i _ _ _ hc
  have z1 := fun i => frozen_of_row w b i _ _ hc
  clear g0 hcell hA
  obtain ⟨n, hn⟩ : ∃ n, n = (x :: r).length := ⟨_, rfl⟩
  rw [← hn] at hl h0 ⊢
  clear hn
  have HC := Lib.hid hc
  clear hc hL
  go_enter Tryd.func52, Tryd.ntmps52
  go_wp2
  go_end0
  refine TakeRet.same rfl ?_ ?_ (But.setCell (a := ⟨b, _, none⟩) (But.refl _ _) rfl _)
  · decide
  · exact (heap_setCell_same _ _ _ _ _ _ HC.out).trans rfl
theorem take5_any (c : Cf) (A : Option Addr) (cap b : Nat) (l : List Int) (L : Option Addr) (cl : Nat) (w : World) (h0 : 0 < l.length) (hl : l.length ≤ 1000000) (hL : Reads w w.heap.size 1 L l.length (intsV l)) (hc : ConfAt w b c A cap) (hA : 5 = 3 → A = none ∧ cap = 0) :
    Calls Tryd.prog 54 #[.pointer (some ⟨b, 0, none⟩), .slice L l.length cl] w (TakeRet w b c A cap 5 l) := by
  obtain ⟨so, ro, ol, we, qu, ti, pa⟩ := c
  obtain ⟨ad, rfl, hb, hcell⟩ := hL.2 h0
  obtain ⟨x, r, rfl⟩ : ∃ x r, l = x :: r := by cases l with | nil => simp at h0 | cons x r => exact ⟨x, r, rfl⟩
  have g0 : w.cell? (ad.add 0) = some (.int .i64 x) := hcell 0 _ (by simp [intsV])
  have g1 : w.cell? ad = some (.int .i64 x) := by simpa [Addr.add] using g0
  have f1 := fun i => cell_of_row w b i _ _ _ hc
  have z1 := fun i => frozen_of_row w b i _ _ hc
  clear g0 hcell hA
  obtain ⟨n, hn⟩ : ∃ n, n = (x :: r).length := ⟨_, rfl⟩
  rw [← hn] at hl h0 ⊢
  clear hn
  have HC := Lib.hid hc
  clear hc hL
  go_enter Tryd.func54, Tryd.ntmps54
  go_wp2
  go_end0
  refine TakeRet.same rfl ?_ ?_ (But.setCell (a := ⟨b, _, none⟩) (But.refl _ _) rfl _)
  · decide
  · exact (heap_setCell_same _ _ _ _ _ _ HC.out).trans rfl
theorem take6_any (c : Cf) (A : Option Addr) (cap b : Nat) (l : List Int) (L : Option Addr) (cl : Nat) (w : World) (h0 : 0 < l.length) (hl : l.length ≤ 1000000) (hL : Reads w w.heap.size 1 L l.length (intsV l)) (hc : ConfAt w b c A cap) (hA : 6 = 3 → A = none ∧ cap = 0) :
    Calls Tryd.prog 56 #[.pointer (some ⟨b, 0, none⟩), .slice L l.length cl] w (TakeRet w b c A cap 6 l) := by
  obtain ⟨so, ro, ol, we, qu, ti, pa⟩ := c
  obtain ⟨ad, rfl, hb, hcell⟩ := hL.2 h0
  obtain ⟨x, r, rfl⟩ : ∃ x r, l = x :: r := by cases l with | nil => simp at h0 | cons x r => exact ⟨x, r, rfl⟩
  have g0 : w.cell? (ad.add 0) = some (.int .i64 x) := hcell 0 _ (by simp [intsV])
  have g1 : w.cell? ad = some (.int .i64 x) := by simpa [Addr.add] using g0
  have f1 := fun i => cell_of_row w b i _ _ _ hc
  have z1 := fun i => frozen_of_row w b i _ _ hc
  clear g0 hcell hA
  obtain ⟨n, hn⟩ : ∃ n, n = (x :: r).length := ⟨_, rfl⟩
  rw [← hn] at hl h0 ⊢
  clear hn
  have HC := Lib.hid hc
  clear hc hL
  go_enter Tryd.func56, Tryd.ntmps56
  go_wp2
  go_end0
  refine TakeRet.same rfl ?_ ?_ (But.setCell (a := ⟨b, _, none⟩) (But.refl _ _) rfl _)
  · decide
  · exact (heap_setCell_same _ _ _ _ _ _ HC.out).trans rfl
theorem setCell_size (w : World) (a : Addr) (u : Value) : (w.setCell a u).heap.size = w.heap.size := by simp [World.setCell]
set_option maxHeartbeats 1600000 in
theorem take3_any (c : Cf) (A : Option Addr) (cap b : Nat) (l : List Int) (L : Option Addr) (cl : Nat) (w : World) (h0 : 0 < l.length) (hl : l.length ≤ 1000000) (hL : Reads w w.heap.size 1 L l.length (intsV l)) (hc : ConfAt w b c A cap) (hA : 3 = 3 → A = none ∧ cap = 0) (hwe : c.we = []) (hLb : ∀ ad, L = some ad → ad.block ≠ b) :
    Calls Tryd.prog 50 #[.pointer (some ⟨b, 0, none⟩), .slice L l.length cl] w (TakeRet w b c A cap 3 l) := by
  obtain ⟨so, ro, ol, we, qu, ti, pa⟩ := c
  simp only at hwe
  subst hwe
  obtain ⟨rfl, rfl⟩ := hA rfl
  have hb0 : b < w.heap.size := (Array.getElem?_eq_some_iff.1 hc).1
  obtain ⟨ad, rfl, hb, hcell⟩ := hL.2 h0
  have hne := hLb _ rfl
  have hc1 : ∀ wr : World, But b w wr → ∀ j u, (intsV l)[j]? = some u → wr.cell? (ad.add j) = some u := fun wr hbl j u hu => (World.cell?_of_block (by rw [block_of_add]; exact hbl.block _ hb hne)).trans (hcell j u hu)
  have HC := Lib.hid hc1
  clear hc1 hcell hLb
  obtain ⟨n, hn⟩ : ∃ n, n = l.length := ⟨_, rfl⟩
  rw [← hn] at hl h0 hL ⊢
  have HN := Lib.hid hn
  clear hn hL
  go_enter Tryd.func50, Tryd.ntmps50
  go_wp2
  go_loopw [8] (fun i wr => ∃ (q : Nat) (A' : Option Addr) (cap' : Nat), q ≤ n ∧ i = .int .i64 q ∧ wr.ownsRow w.heap.size 3 1 (.slice A' q cap') q (intsV (l.take q)) ∧
      ConfAt wr b ⟨so, ro, ol, l.take q, qu, ti, pa⟩ A' cap' ∧ But b w wr)
    (fun i _ => n - (intOf i).toNat)
  case atStart => exact ⟨0, none, 0, Nat.zero_le _, rfl, World.ownsRow_nil _ _ _ _, hc, But.refl _ _⟩
  case round =>
    obtain ⟨q, A', cap', hq, rfl, hown, hcf, hbut⟩ := hrel
    have hB := hbut.size
    have hlen : (l.take q).length = q := by rw [List.length_take, ← HN.out]; omega
    have hcf' : wr.heap[b]? = some (.cells #[.int .i64 so, .int .i64 ro, .bool ol, .slice A' q cap', .int .i64 qu, .int .i64 ti, .int .i64 pa] 25 (0, 0)) := by
      have := hcf
      unfold ConfAt at this
      simp only [hlen] at this
      exact this
    have f1 := fun i => cell_of_row wr b i _ _ _ hcf'
    have z1 := fun i => frozen_of_row wr b i _ _ hcf'
    have HL := Lib.hid hlen
    have HF := Lib.hid hcf'
    clear hlen hcf hcf'
    by_cases hlt : q < n
    · have hx : q < l.length := by rw [← HN.out]; exact hlt
      obtain ⟨x, hxe⟩ : ∃ x, x = l[q] := ⟨_, rfl⟩
      have g1 : wr.cell? (ad.add q) = some (.int .i64 x) := by
        rw [hxe]
        exact HC.out wr hbut q _ (intsV_get hx)
      have HS := Lib.hid (show l.take (q + 1) = l.take q ++ [x] by rw [hxe]; exact List.take_succ_eq_append_getElem hx)
      clear hxe
      go_wp2_with (at_builtin; refine wpList_app1 El23 rfl _ _ rfl rfl hown rfl rfl (by simp [Value.oneCell']) (by omega) hB (Below.refl _ _) ?_; intro v' w2 hown' hb'; obtain ⟨A2, cap2, rfl, hc2, hr2⟩ := RdP.of_own hown'; have f2 := fun i => (hb'.cell (p := ⟨b, i, none⟩) hb0).trans (f1 i); have z2 := fun i => (hb'.frozen (p := ⟨b, i, none⟩) hb0).trans (z1 i))
      go_roundw
      case rel =>
        refine ⟨q + 1, A2, cap2, by omega, by go_num, ?_, ?_, ?_⟩
        · rw [HS.out, intsV_snoc]; exact ownsRow_setCell_below hown' hb0 _
        · unfold ConfAt
          have e : w2.heap[b]? = _ := (hb'.block b hb0).trans HF.out
          have hl2 : (l.take (q + 1)).length = q + 1 := by rw [List.length_take, ← HN.out]; omega
          simp only [hl2]
          exact (heap_setCell_same _ _ _ _ _ _ e).trans rfl
        · exact But.setCell (a := ⟨b, _, none⟩) (hbut.then_below hb') rfl _
      case measure => simp [intOf]; omega
    · have e3 : l.take q = l := List.take_of_length_le (by rw [← HN.out]; omega)
      rw [e3] at hown
      obtain ⟨A2, c2, hv2, hc', hr'⟩ := RdP.of_own hown
      have HR := Lib.hid hr'
      have HV := Lib.hid hv2
      clear hown hr' hv2
      go_wp2
      obtain rfl : q = n := by omega
      go_end0
      injection HV.out with hA2 _ hcc
      subst hA2; subst hcc
      refine ⟨rfl, A', cap', ?_, fun h => absurd rfl h, fun _ => ⟨by rw [← HN.out]; exact HR.out, by rw [← HN.out]; exact hc'⟩, hbut⟩
      unfold ConfAt
      simp only [takeC, ← HN.out]
      exact HF.out
/-- each setting takes -/
theorem take_any (k : Nat) (hk : k < 7) (c : Cf) (A : Option Addr) (cap b : Nat) (l : List Int) (L : Option Addr) (cl : Nat) (w : World) (h0 : 0 < l.length) (hl : l.length ≤ 1000000) (hL : Reads w w.heap.size 1 L l.length (intsV l)) (hc : ConfAt w b c A cap) (hA : k = 3 → (A = none ∧ cap = 0) ∧ c.we = []) (hLb : ∀ ad, L = some ad → ad.block ≠ b) :
    Calls Tryd.prog (takeF.getD k 0) #[.pointer (some ⟨b, 0, none⟩), .slice L l.length cl] w (TakeRet w b c A cap k l) := by
  match k, hk with
  | 0, _ => exact take0_any c A cap b l L cl w h0 hl hL hc (fun h => (hA h).1)
  | 1, _ => exact take1_any c A cap b l L cl w h0 hl hL hc (fun h => (hA h).1)
  | 2, _ => exact take2_any c A cap b l L cl w h0 hl hL hc (fun h => (hA h).1)
  | 3, _ => exact take3_any c A cap b l L cl w h0 hl hL hc (fun _ => (hA rfl).1) (hA rfl).2 hLb
  | 4, _ => exact take4_any c A cap b l L cl w h0 hl hL hc (fun h => (hA h).1)
  | 5, _ => exact take5_any c A cap b l L cl w h0 hl hL hc (fun h => (hA h).1)
  | 6, _ => exact take6_any c A cap b l L cl w h0 hl hL hc (fun h => (hA h).1)
theorem take_enters (k : Nat) (hk : k < 7) : ∀ args w, (callFunc (takeF.getD k 0) args).run Tryd.prog w = .ok (.enter (takeF.getD k 0) args) w := by
  match k, hk with
  | 0, _ => exact enters_of Tryd.func43 (by kernel_rfl) rfl
  | 1, _ => exact enters_of Tryd.func45 (by kernel_rfl) rfl
  | 2, _ => exact enters_of Tryd.func47 (by kernel_rfl) rfl
  | 3, _ => exact enters_of Tryd.func50 (by kernel_rfl) rfl
  | 4, _ => exact enters_of Tryd.func52 (by kernel_rfl) rfl
  | 5, _ => exact enters_of Tryd.func54 (by kernel_rfl) rfl
  | 6, _ => exact enters_of Tryd.func56 (by kernel_rfl) rfl
/-- each setting tells -/
theorem tell_any (k : Nat) (hk : k < 7) (c : Cf) (A : Option Addr) (cap : Nat) (w : World) (hl : c.we.length ≤ 1000000) (hR : Reads w w.heap.size 1 A c.we.length (intsV c.we)) :
    Calls Tryd.prog (tellF.getD k 0) #[c.v A cap] w (TellRet w (tellL c k)) := by
  match k, hk with
  | 0, _ => exact tell0_any c A cap w
  | 1, _ => exact tell1_any c A cap w
  | 2, _ => exact tell2_any c A cap w
  | 3, _ => exact tell3_any c A cap w hl hR
  | 4, _ => exact tell4_any c A cap w
  | 5, _ => exact tell5_any c A cap w
  | 6, _ => exact tell6_any c A cap w
theorem tell_enters (k : Nat) (hk : k < 7) : ∀ args w, (callFunc (tellF.getD k 0) args).run Tryd.prog w = .ok (.enter (tellF.getD k 0) args) w := by
  match k, hk with
  | 0, _ => exact enters_of Tryd.func44 (by kernel_rfl) rfl
  | 1, _ => exact enters_of Tryd.func46 (by kernel_rfl) rfl
  | 2, _ => exact enters_of Tryd.func48 (by kernel_rfl) rfl
  | 3, _ => exact enters_of Tryd.func51 (by kernel_rfl) rfl
  | 4, _ => exact enters_of Tryd.func53 (by kernel_rfl) rfl
  | 5, _ => exact enters_of Tryd.func55 (by kernel_rfl) rfl
  | 6, _ => exact enters_of Tryd.func57 (by kernel_rfl) rfl
end Go.Proofs.YtmmmepmjmofbjaaDoor
