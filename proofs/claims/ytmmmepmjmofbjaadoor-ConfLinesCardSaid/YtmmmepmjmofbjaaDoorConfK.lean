/- conf.settings and what it is made of: what each setting tells and takes. -/
import Derived.Test.YtmmmepmjmofbjaaDoorProg
import Derived.Test.YtmmmepmjmofbjaaDoorInf
import Derived.Test.YtmmmepmjmofbjaaDoorConfA
import Derived.Test.YtmmmepmjmofbjaaDoorConfF
import Derived.Test.YtmmmepmjmofbjaaDoorShelf
set_option linter.unusedVariables false
namespace Go.Proofs.YtmmmepmjmofbjaaDoor
open Go Go.RowKit

/-- what a setting tells of a configuration -/
def tellL (c : Cf) : Nat → List Int
  | 0 => [c.so] | 1 => [c.ro] | 2 => [if c.ol then 1 else 0] | 3 => c.we | 4 => [c.qu] | 5 => [c.ti] | _ => [c.pa]
def TellRet (w : World) (l : List Int) (e : Ending) (w' : World) : Prop :=
  ∃ A cap, e = .returned (.slice A l.length cap) ∧ Reads w' w'.heap.size 1 A l.length (intsV l) ∧ Below w.heap.size w w' ∧ (∀ ad, A = some ad → ∃ cs, w'.heap[ad.block]? = some (.cells cs 2 (0, 0)))
theorem own_block {w : World} {base : Nat} {e : TypeId} {size n n' c : Nat} {A : Option Addr} {xs : List Value} (h : w.ownsRow base e size (.slice A n c) n' xs) : ∀ ad, A = some ad → ∃ cs, w.heap[ad.block]? = some (.cells cs e (0, 0)) := by
  intro ad hd
  subst hd
  rcases h.2 with ⟨h1, _⟩ | ⟨g, cap, cur, h1, _, h2, _⟩
  · cases h1
  · cases h1; exact ⟨_, h2⟩
theorem TellRet.one {w W : World} {x : Int} {H : Nat} {v : Value} (hv : v = .slice (some ⟨H, 0, none⟩) 1 1) (hH : H = W.heap.size) (hb : Below w.heap.size w (W.alloc (.cells #[.int .i64 x] 2))) :
    TellRet w [x] (.returned v) (W.alloc (.cells #[.int .i64 x] 2)) := by
  subst hH; subst hv
  refine ⟨_, _, rfl, ⟨by simp [intsV], fun _ => ⟨_, rfl, by simp, ?_⟩⟩, hb, fun ad hd => by injection hd with hd; subst hd; exact ⟨_, heap_alloc_new W _⟩⟩
  intro j u hu
  match j, hu with
  | 0, hu =>
    simp only [intsV, List.map_cons, List.getElem?_cons_zero, Option.some.injEq] at hu
    subst hu
    show (W.alloc _).cell? ⟨W.heap.size, 0, none⟩ = _
    rw [cell_of_row _ W.heap.size 0 _ 2 (0, 0) (heap_alloc_new W _)]
    rfl

theorem TellRet.drew {w W : World} {l : List Int} {e : Ending} (h : TellRet w l e W) : TellRet w l e W.drew := by
  obtain ⟨A, cap, h1, h2, h3, h4⟩ := h
  exact ⟨A, cap, h1, h2.keep fun _ _ => rfl, h3.drew, h4⟩
theorem tell0_any (c : Cf) (A : Option Addr) (cap : Nat) (w : World) : Calls Tryd.prog 44 #[c.v A cap] w (TellRet w (tellL c 0)) := by
  obtain ⟨so, ro, ol, we, qu, ti, pa⟩ := c
  go_enter Tryd.func44, Tryd.ntmps44
  go_wp2
  go_ret
  refine TellRet.one rfl (by simp) ?_
  repeat (first | (with_reducible assumption) | (with_reducible exact Below.refl _ _) | (with_reducible refine Below.drewN ?_ _) | (with_reducible refine Below.drew ?_) | (with_reducible refine Below.setCell ?_ (by first | omega | (simp; done) | (simp; omega) | (simp [World.setCell]; done) | (simp [World.setCell]; omega)) _) | (with_reducible refine Below.alloc ?_ (by first | omega | (simp; done) | (simp; omega) | (simp [World.setCell]; done) | (simp [World.setCell]; omega)) _))
theorem tell1_any (c : Cf) (A : Option Addr) (cap : Nat) (w : World) : Calls Tryd.prog 46 #[c.v A cap] w (TellRet w (tellL c 1)) := by
  obtain ⟨so, ro, ol, we, qu, ti, pa⟩ := c
  go_enter Tryd.func46, Tryd.ntmps46
  go_wp2
  go_ret
  refine TellRet.one rfl (by simp) ?_
  repeat (first | (with_reducible assumption) | (with_reducible exact Below.refl _ _) | (with_reducible refine Below.drewN ?_ _) | (with_reducible refine Below.drew ?_) | (with_reducible refine Below.setCell ?_ (by first | omega | (simp; done) | (simp; omega) | (simp [World.setCell]; done) | (simp [World.setCell]; omega)) _) | (with_reducible refine Below.alloc ?_ (by first | omega | (simp; done) | (simp; omega) | (simp [World.setCell]; done) | (simp [World.setCell]; omega)) _))
theorem tell4_any (c : Cf) (A : Option Addr) (cap : Nat) (w : World) : Calls Tryd.prog 53 #[c.v A cap] w (TellRet w (tellL c 4)) := by
  obtain ⟨so, ro, ol, we, qu, ti, pa⟩ := c
  go_enter Tryd.func53, Tryd.ntmps53
  go_wp2
  go_ret
  refine TellRet.one rfl (by simp) ?_
  repeat (first | (with_reducible assumption) | (with_reducible exact Below.refl _ _) | (with_reducible refine Below.drewN ?_ _) | (with_reducible refine Below.drew ?_) | (with_reducible refine Below.setCell ?_ (by first | omega | (simp; done) | (simp; omega) | (simp [World.setCell]; done) | (simp [World.setCell]; omega)) _) | (with_reducible refine Below.alloc ?_ (by first | omega | (simp; done) | (simp; omega) | (simp [World.setCell]; done) | (simp [World.setCell]; omega)) _))
theorem tell5_any (c : Cf) (A : Option Addr) (cap : Nat) (w : World) : Calls Tryd.prog 55 #[c.v A cap] w (TellRet w (tellL c 5)) := by
  obtain ⟨so, ro, ol, we, qu, ti, pa⟩ := c
  go_enter Tryd.func55, Tryd.ntmps55
  go_wp2
  go_ret
  refine TellRet.one rfl (by simp) ?_
  repeat (first | (with_reducible assumption) | (with_reducible exact Below.refl _ _) | (with_reducible refine Below.drewN ?_ _) | (with_reducible refine Below.drew ?_) | (with_reducible refine Below.setCell ?_ (by first | omega | (simp; done) | (simp; omega) | (simp [World.setCell]; done) | (simp [World.setCell]; omega)) _) | (with_reducible refine Below.alloc ?_ (by first | omega | (simp; done) | (simp; omega) | (simp [World.setCell]; done) | (simp [World.setCell]; omega)) _))
theorem tell6_any (c : Cf) (A : Option Addr) (cap : Nat) (w : World) : Calls Tryd.prog 57 #[c.v A cap] w (TellRet w (tellL c 6)) := by
  obtain ⟨so, ro, ol, we, qu, ti, pa⟩ := c
  go_enter Tryd.func57, Tryd.ntmps57
  go_wp2
  go_ret
  refine TellRet.one rfl (by simp) ?_
  repeat (first | (with_reducible assumption) | (with_reducible exact Below.refl _ _) | (with_reducible refine Below.drewN ?_ _) | (with_reducible refine Below.drew ?_) | (with_reducible refine Below.setCell ?_ (by first | omega | (simp; done) | (simp; omega) | (simp [World.setCell]; done) | (simp [World.setCell]; omega)) _) | (with_reducible refine Below.alloc ?_ (by first | omega | (simp; done) | (simp; omega) | (simp [World.setCell]; done) | (simp [World.setCell]; omega)) _))

theorem pol_cells {w : World} {b : Nat} {t : TypeId} {f : Nat × Nat} (h : w.heap[b]? = some (.cells #[.string (bs [116, 97, 105, 108]), .string (bs [111, 108, 100, 101, 115, 116])] t f)) :
    ∀ j, j < [bs [116, 97, 105, 108], bs [111, 108, 100, 101, 115, 116]].length → w.cell? ⟨b, 0 + j, none⟩ = some (.string ([bs [116, 97, 105, 108], bs [111, 108, 100, 101, 115, 116]].getD j ByteArray.empty)) := by
  intro j hj
  rw [cell_of_row w b (0 + j) _ t f h]
  match j, hj with
  | 0, _ | 1, _ => rfl
def polW (b : Bool) : List UInt8 := if b then [111, 108, 100, 101, 115, 116] else [116, 97, 105, 108]
theorem policyW_any (b : Bool) (w : World) :
    Calls Tryd.prog 49 #[.bool b] w fun e w' => e = .returned (.string (bs (polW b))) ∧ w = w' := policy_any b w
def polI (b : Bool) : Int := if b then 1 else 0
theorem polI_eq (b : Bool) : Lib.idxOfS ([bs [116, 97, 105, 108], bs [111, 108, 100, 101, 115, 116]].take 2) (bs (polW b)) = polI b := by cases b <;> rfl
theorem polIdx_any (b : Bool) (g : Nat) (w : World) (h : w.heap[g]? = some (.cells #[.string (bs [116, 97, 105, 108]), .string (bs [111, 108, 100, 101, 115, 116])] 9 (0, 0))) :
    Calls Tryd.prog 37 #[.slice (some ⟨g, 0, none⟩) 2 2, .string (bs (polW b))] w fun e w' => e = .returned (.int .i64 (polI b)) ∧ w' = w := by
  have := Tryd.slices_Index_string g 0 2 2 [bs [116, 97, 105, 108], bs [111, 108, 100, 101, 115, 116]] (bs (polW b)) w (by decide) (by decide) (pol_cells h)
  rw [polI_eq] at this
  exact this
theorem tell2_any (c : Cf) (A : Option Addr) (cap : Nat) (w : World) : Calls Tryd.prog 48 #[c.v A cap] w (TellRet w (tellL c 2)) := by
  obtain ⟨so, ro, ol, we, qu, ti, pa⟩ := c
  go_enter Tryd.func48, Tryd.ntmps48
  go_upto_region 1 with fail
  go_cut [2] (fun s2 wx => TellRet w (tellL ⟨so, ro, ol, we, qu, ti, pa⟩ 2) (.returned s2) wx)
  case first =>
    go_region_with first
      | (go_at_call 30; refine (policies_any _).mono ?_; rintro e w2 ⟨rfl, rfl⟩)
      | (go_at_call 49; refine (policyW_any _ _).mono ?_; rintro e w3 ⟨rfl, rfl⟩)
      | (go_at_call 37; refine (polIdx_any _ _ _ ?_).mono ?_; (next => (first | (simp [heap_drew]; done) | (simp only [heap_drew]; rw [show w.heap.size + 1 = (w.alloc (.cells #[.int .i64 so, .int .i64 ro, .bool ol, .slice A we.length cap, .int .i64 qu, .int .i64 ti, .int .i64 pa] 25)).heap.size from by simp]; exact heap_alloc_new _ _))); rintro e w4 ⟨rfl, hw⟩; subst hw)
    all_goals (go_wp2_with fail; go_meet)
    all_goals
      refine TellRet.drew ?_
      refine TellRet.one rfl (by simp) ?_
      repeat (first | (with_reducible assumption) | (with_reducible exact Below.refl _ _) | (with_reducible refine Below.drewN ?_ _) | (with_reducible refine Below.drew ?_) | (with_reducible refine Below.setCell ?_ (by first | omega | (simp; done) | (simp; omega) | (simp [World.setCell]; done) | (simp [World.setCell]; omega)) _) | (with_reducible refine Below.alloc ?_ (by first | omega | (simp; done) | (simp; omega) | (simp [World.setCell]; done) | (simp [World.setCell]; omega)) _))
  case rest =>
    obtain ⟨A', cap', h1, h2, h3, h4⟩ := hcut
    injection h1 with h1
    subst h1
    go_wp2
    go_ret
    exact ⟨A', cap', rfl, h2, h3, h4⟩

set_option maxHeartbeats 1600000 in
theorem tell3_any (c : Cf) (A : Option Addr) (cap : Nat) (w : World) (hl : c.we.length ≤ 1000000) (hR : Reads w w.heap.size 1 A c.we.length (intsV c.we)) : Calls Tryd.prog 51 #[c.v A cap] w (TellRet w (tellL c 3)) := by
  obtain ⟨so, ro, ol, we, qu, ti, pa⟩ := c
  show Calls _ _ _ w (TellRet w we)
  simp only at hR hl
  have hR2 := hR.2
  clear hR
  obtain ⟨n, hn⟩ : ∃ n, n = we.length := ⟨_, rfl⟩
  have e0 : Cf.v ⟨so, ro, ol, we, qu, ti, pa⟩ A cap = cfv so ro ol A n cap qu ti pa := by rw [hn]
  rw [e0]
  clear e0
  rw [← hn] at hl hR2
  have HN := Lib.hid hn
  clear hn
  go_enter Tryd.func51, Tryd.ntmps51
  go_wp2
  go_loopw [3, 9] (fun v i wr => ∃ q : Nat, q ≤ n ∧ i = .int .i64 q ∧ wr.ownsRow (w.heap.size + 1) 2 1 v q (intsV (we.take q)) ∧
      Below (w.heap.size + 1) (w.alloc (.cells #[.int .i64 so, .int .i64 ro, .bool ol, .slice A n cap, .int .i64 qu, .int .i64 ti, .int .i64 pa] 25)) wr)
    (fun _ i _ => n - (intOf i).toNat)
  case atStart => exact ⟨0, Nat.zero_le _, rfl, World.ownsRow_nil _ _ _ _, Below.refl _ _⟩
  case round =>
    obtain ⟨q, hq, rfl, hown, hbl⟩ := hrel
    have hB := hbl.size
    have hB' : w.heap.size + 1 ≤ wr.heap.size := by simpa using hB
    clear hB
    have hbw : Below w.heap.size w wr := Below.trans ((Below.refl _ _).alloc (Nat.le_refl _) _) (hbl.mono (by omega))
    by_cases hlt : q < n
    · have hx : q < we.length := by rw [← HN.out]; exact hlt
      obtain ⟨ad, rfl, hb, hc⟩ := hR2 (by omega)
      obtain ⟨x, hxe⟩ : ∃ x, x = we[q] := ⟨_, rfl⟩
      have g1 : wr.cell? (ad.add q) = some (.int .i64 x) := by
        rw [hbw.cell (by rw [block_of_add]; exact hb), hxe]
        exact hc q _ (intsV_get hx)
      have HS := Lib.hid (show we.take (q + 1) = we.take q ++ [x] by rw [hxe]; exact List.take_succ_eq_append_getElem hx)
      clear hc hR2 hxe
      go_wp2_with (at_builtin; refine wpList_app1 El63 rfl _ _ rfl rfl hown rfl rfl (by simp [Value.oneCell']) (by omega) hB' hbl ?_; intro v' w2 hown' hb')
      go_roundw
      case rel => exact ⟨q + 1, by omega, by go_num, by rw [HS.out, intsV_snoc]; exact hown', hb'⟩
      case measure => simp [intOf]; omega
    · have e3 : we.take q = we := List.take_of_length_le (by rw [← HN.out]; omega)
      rw [e3] at hown
      obtain ⟨A', c', rfl, hc', hr'⟩ := Reads.of_own hown
      have HR := Lib.hid hr'
      have HBK := Lib.hid (own_block hown)
      clear hR2 e3 hown hr'
      go_wp2
      obtain rfl : q = n := by omega
      go_ret
      exact ⟨A', c', by rw [← HN.out]; rfl, by rw [← HN.out]; exact HR.out, hbw, HBK.out⟩

def setLo : List Int := [1, 1, 0, 1, 1, 1, 0]
def setHi : List Int := [8, 64, 1, 16, 64, 9223372036854775807, 9223372036854775807]
def takeF : List Nat := [43, 45, 47, 50, 52, 54, 56]
def tellF : List Nat := [44, 46, 48, 51, 53, 55, 57]
def setRow (k : Nat) : List Value := [.string (bs (words7.getD k [])), .int .i64 (setLo.getD k 0), .int .i64 (setHi.getD k 0), .func (.func (takeF.getD k 0)) #[] #[], .func (.func (tellF.getD k 0)) #[] #[]]
def setCells : Array Value := (setRow 0 ++ setRow 1 ++ setRow 2 ++ setRow 3 ++ setRow 4 ++ setRow 5 ++ setRow 6).toArray

set_option maxRecDepth 100000 in
theorem settings_any (w : World) : Calls Tryd.prog 27 #[] w fun e w' => e = .returned (.slice (some ⟨w.heap.size, 0, none⟩) 7 7) ∧ w' = w.alloc (.cells setCells 62) := by
  go_enter Tryd.func27, Tryd.ntmps27
  go_wp2
  go_ret
  exact ⟨rfl, rfl⟩
end Go.Proofs.YtmmmepmjmofbjaaDoor
