/- lookoutref17.line: what comes of a setting's line. -/
import Derived.Test.YtmmmepmjmofbjaaDoorProg
import Derived.Test.YtmmmepmjmofbjaaDoorInf
import Derived.Test.YtmmmepmjmofbjaaDoorConfB
import Derived.Test.YtmmmepmjmofbjaaDoorConfF
import Derived.Deep.QuietTactic
import Derived.BigQuiet
set_option linter.unusedVariables false
namespace Go.Proofs.YtmmmepmjmofbjaaDoor
open Go Go.RowKit

def oldest6 : List UInt8 := [111, 108, 100, 101, 115, 116]
def tail4 : List UInt8 := [116, 97, 105, 108]
def rngB (k : Int) (x : Int) : Bool := decide (lowI k ≤ x) && decide (x ≤ highI k)
def lineE (k : Int) (ws : List (List UInt8)) : Int :=
  if ws.length = 0 ∨ (1 < ws.length ∧ k ≠ 4) then 11
  else if k = 3 then (if ws.headD [] = oldest6 ∨ ws.headD [] = tail4 then 0 else 11)
  else if ws.all isNum then (if (ws.map numV).all (rngB k) then 0 else 33) else 11
def lineD (c : Cf) (k : Int) (ws : List (List UInt8)) : Cf := if k = 3 then { c with ol := ws.headD [] == oldest6 } else setC c k (ws.map numV)
def LineRet (w : World) (p : Nat → Prop) (c : Cf) (k : Int) (ws : List (List UInt8)) (e : Ending) (w' : World) : Prop :=
  ∃ d A cap, e = .returned (.tuple #[Cf.v d A cap, .int .i64 (lineE k ws)]) ∧ (lineE k ws = 0 → d = lineD c k ws) ∧ d.we.length ≤ cap ∧ RdP w' (OutP p w.heap.size w') 1 A d.we.length (intsV d.we) ∧ Below w.heap.size w w'
theorem LineRet.same {w w' : World} {p : Nat → Prop} {c d : Cf} {k : Int} {ws : List (List UInt8)} {v : Value} {A : Option Addr} {cap : Nat} {E : Int} (hE : lineE k ws = E) (hv : v = .tuple #[Cf.v d A cap, .int .i64 E]) (hd : d.we = c.we) (h0 : E = 0 → d = lineD c k ws)
    (hcap : c.we.length ≤ cap) (hR : RdP w p 1 A c.we.length (intsV c.we)) (hB : ∀ b, p b → b < w.heap.size) (hb : Below w.heap.size w w') : LineRet w p c k ws (.returned v) w' := by
  subst hE
  exact ⟨d, A, cap, by rw [hv], h0, by rw [hd]; exact hcap, by rw [hd]; exact hR.keep (fun b h => hb.block b (hB b h)) fun b h => ⟨.inl h, by have := hb.size; have := hB b h; omega⟩, hb⟩

theorem line_none {k : Int} {ws : List (List UInt8)} (h : ws.length = 0 ∨ (1 < ws.length ∧ k ≠ 4)) : lineE k ws = 11 := by unfold lineE; rw [if_pos h]

set_option maxRecDepth 100000 in
set_option maxHeartbeats 3200000 in
theorem line_none_any (c : Cf) (p : Nat → Prop) (A : Option Addr) (cap : Nat) (k : Int) (ws : List (List UInt8)) (W : Option Addr) (wc : Nat) (w : World) (hl : ws.length ≤ 1000)
    (hR : RdP w p 1 A c.we.length (intsV c.we)) (hBw : ∀ b, p b → b < w.heap.size) (hcap : c.we.length ≤ cap) (hn : ws.length = 0 ∨ (1 < ws.length ∧ k ≠ 4)) :
    Calls Tryd.prog 26 #[c.v A cap, .int .i64 k, .slice W ws.length wc] w (LineRet w p c k ws) := by
  have HE := Lib.hid (line_none hn)
  obtain ⟨so, ro, ol, we, qu, ti, pa⟩ := c
  simp only at hR hcap
  obtain ⟨n, hnn⟩ : ∃ n, n = ws.length := ⟨_, rfl⟩
  rw [← hnn] at hn hl ⊢
  clear hnn
  rcases hn with h0 | ⟨h1, h4⟩
  · subst h0
    go_enter Tryd.func26, Tryd.ntmps26
    go_wp2
    exact bodyPost_ret (v := .tuple #[Cf.v ⟨so, ro, ol, we, qu, ti, pa⟩ A cap, .int .i64 11]) (by simp [results, Tryd.results26, go_sem]) rfl (LineRet.same (d := ⟨so, ro, ol, we, qu, ti, pa⟩) HE.out rfl rfl (by intro h; cases h) hcap hR hBw (by repeat (first | (with_reducible assumption) | (with_reducible exact Below.refl _ _) | (with_reducible refine Below.drewN ?_ _) | (with_reducible refine Below.drew ?_) | (with_reducible refine Below.setCell ?_ (by first | omega | (simp; done) | (simp; omega) | (simp [World.setCell]; done) | (simp [World.setCell]; omega)) _) | (with_reducible refine Below.alloc ?_ (by first | omega | (simp; done) | (simp; omega) | (simp [World.setCell]; done) | (simp [World.setCell]; omega)) _))))
  · have b4 : (k != 4) = true := by rw [bne_iff_ne]; exact h4
    have e0 : ((n : Int) == 0) = false := by rw [beq_eq_false_iff_ne]; omega
    go_enter Tryd.func26, Tryd.ntmps26
    go_wp2
    exact bodyPost_ret (v := .tuple #[Cf.v ⟨so, ro, ol, we, qu, ti, pa⟩ A cap, .int .i64 11]) (by simp [results, Tryd.results26, go_sem]) rfl (LineRet.same (d := ⟨so, ro, ol, we, qu, ti, pa⟩) HE.out rfl rfl (by intro h; cases h) hcap hR hBw (by repeat (first | (with_reducible assumption) | (with_reducible exact Below.refl _ _) | (with_reducible refine Below.drewN ?_ _) | (with_reducible refine Below.drew ?_) | (with_reducible refine Below.setCell ?_ (by first | omega | (simp; done) | (simp; omega) | (simp [World.setCell]; done) | (simp [World.setCell]; omega)) _) | (with_reducible refine Below.alloc ?_ (by first | omega | (simp; done) | (simp; omega) | (simp [World.setCell]; done) | (simp [World.setCell]; omega)) _))))

set_option maxRecDepth 100000 in
set_option maxHeartbeats 3200000 in
theorem line_policy_any (c : Cf) (p : Nat → Prop) (A : Option Addr) (cap : Nat) (x : List UInt8) (W : Option Addr) (wc : Nat) (w : World)
    (hR : RdP w p 1 A c.we.length (intsV c.we)) (hBw : ∀ b, p b → b < w.heap.size) (hcap : c.we.length ≤ cap) (hW : Reads w w.heap.size 1 W 1 (strsV [x])) :
    Calls Tryd.prog 26 #[c.v A cap, .int .i64 3, .slice W 1 wc] w (LineRet w p c 3 [x]) := by
  obtain ⟨so, ro, ol, we, qu, ti, pa⟩ := c
  simp only at hR hcap
  obtain ⟨ad, rfl, hb, hc⟩ := hW.2 (by omega)
  have g0 : w.cell? (ad.add 0) = some (.string (bs x)) := hc 0 _ (by simp [strsV])
  have g1 : ∀ o1 o2, ((w.alloc o1).alloc o2).cell? ad = some (.string (bs x)) := fun o1 o2 => by
    rw [World.cell?_alloc_lt _ _ _ (by simp; omega), World.cell?_alloc_lt _ _ _ hb]
    simpa [Addr.add] using g0
  clear g0 hc hW
  go_enter Tryd.func26, Tryd.ntmps26
  go_wp2
  · have hx : x = [111, 108, 100, 101, 115, 116] := by assumption
    subst hx
    exact bodyPost_ret (v := .tuple #[Cf.v ⟨so, ro, true, we, qu, ti, pa⟩ A cap, .int .i64 0]) (by simp [results, Tryd.results26, go_sem]) rfl (LineRet.same (d := ⟨so, ro, true, we, qu, ti, pa⟩) (by decide) rfl rfl (by intro _; simp [lineD, oldest6]) hcap hR hBw (by repeat (first | (with_reducible assumption) | (with_reducible exact Below.refl _ _) | (with_reducible refine Below.drewN ?_ _) | (with_reducible refine Below.drew ?_) | (with_reducible refine Below.setCell ?_ (by first | omega | (simp; done) | (simp; omega) | (simp [World.setCell]; done) | (simp [World.setCell]; omega)) _) | (with_reducible refine Below.alloc ?_ (by first | omega | (simp; done) | (simp; omega) | (simp [World.setCell]; done) | (simp [World.setCell]; omega)) _))))
  · have hx : (!x == [111, 108, 100, 101, 115, 116]) = true ∧ (!x == [116, 97, 105, 108]) = true := by assumption
    obtain ⟨h1, h2⟩ := hx
    have h1' : ¬ x = [111, 108, 100, 101, 115, 116] := by simpa using h1
    have h2' : ¬ x = [116, 97, 105, 108] := by simpa using h2
    exact bodyPost_ret (v := .tuple #[Cf.v ⟨so, ro, false, we, qu, ti, pa⟩ A cap, .int .i64 11]) (by simp [results, Tryd.results26, go_sem, h1']) rfl (LineRet.same (d := ⟨so, ro, false, we, qu, ti, pa⟩) (by simp [lineE, oldest6, tail4, h1', h2']) rfl rfl (by intro h; cases h) hcap hR hBw (by repeat (first | (with_reducible assumption) | (with_reducible exact Below.refl _ _) | (with_reducible refine Below.drewN ?_ _) | (with_reducible refine Below.drew ?_) | (with_reducible refine Below.setCell ?_ (by first | omega | (simp; done) | (simp; omega) | (simp [World.setCell]; done) | (simp [World.setCell]; omega)) _) | (with_reducible refine Below.alloc ?_ (by first | omega | (simp; done) | (simp; omega) | (simp [World.setCell]; done) | (simp [World.setCell]; omega)) _))))
  · have hx : (!x == [111, 108, 100, 101, 115, 116]) = false ∨ (!x == [116, 97, 105, 108]) = false := by assumption
    have hn : ¬ x = [111, 108, 100, 101, 115, 116] := by assumption
    have hx' : x = [116, 97, 105, 108] := by
      rcases hx with h | h
      · exact absurd (by simpa using h) hn
      · simpa using h
    subst hx'
    exact bodyPost_ret (v := .tuple #[Cf.v ⟨so, ro, false, we, qu, ti, pa⟩ A cap, .int .i64 0]) (by simp [results, Tryd.results26, go_sem]) rfl (LineRet.same (d := ⟨so, ro, false, we, qu, ti, pa⟩) (by decide) rfl rfl (by intro _; simp [lineD, oldest6]) hcap hR hBw (by repeat (first | (with_reducible assumption) | (with_reducible exact Below.refl _ _) | (with_reducible refine Below.drewN ?_ _) | (with_reducible refine Below.drew ?_) | (with_reducible refine Below.setCell ?_ (by first | omega | (simp; done) | (simp; omega) | (simp [World.setCell]; done) | (simp [World.setCell]; omega)) _) | (with_reducible refine Below.alloc ?_ (by first | omega | (simp; done) | (simp; omega) | (simp [World.setCell]; done) | (simp [World.setCell]; omega)) _))))

theorem quiet_add_left {P : Program} {f : FuncId} {args : Array Value} {w : World} {a n : Nat} {v : Value}
    (h : Calls P f args (w.drewN (a + n)) fun e w' => e = .returned v ∧ w.drewN (a + n) = w') :
    Calls P f args (w.drewN (a + n)) fun e w'' => e = .returned v ∧ ∃ m, w'' = w.drewN (a + m) :=
  h.mono fun _ _ ⟨he, hm⟩ => ⟨he, n, hm.symm⟩

theorem line_e {k : Int} {ws : List (List UInt8)} (h0 : ws.length ≠ 0) (h1 : ws.length = 1 ∨ k = 4) (h3 : k ≠ 3) :
    lineE k ws = if ws.all isNum then (if (ws.map numV).all (rngB k) then 0 else 33) else 11 := by
  unfold lineE
  rw [if_neg (by omega), if_neg h3]

set_option maxRecDepth 100000 in
set_option maxHeartbeats 6400000 in
theorem line_nums_any (c : Cf) (p0 : Nat → Prop) (A : Option Addr) (cap : Nat) (k : Int) (ws : List (List UInt8)) (W : Option Addr) (wc : Nat) (w : World) (hl : ws.length ≤ 1000) (hsz : ∀ x ∈ ws, x.length ≤ 1000000)
    (hR : RdP w p0 1 A c.we.length (intsV c.we)) (hBw : ∀ b, p0 b → b < w.heap.size) (hcap : c.we.length ≤ cap) (hW : Reads w w.heap.size 1 W ws.length (strsV ws))
    (h0 : ws.length ≠ 0) (h1 : ws.length = 1 ∨ k = 4) (h3 : k ≠ 3) :
    Calls Tryd.prog 26 #[c.v A cap, .int .i64 k, .slice W ws.length wc] w (LineRet w p0 c k ws) := by
  have HE := Lib.hid (line_e h0 h1 h3)
  have HZ := Lib.hid hsz
  clear hsz
  obtain ⟨so, ro, ol, we, qu, ti, pa⟩ := c
  simp only at hR hcap
  obtain ⟨ad, rfl, hb, hc⟩ := hW.2 (by omega)
  have HC := Lib.hid hc
  clear hc hW
  obtain ⟨n, hnn⟩ : ∃ n, n = ws.length := ⟨_, rfl⟩
  rw [← hnn] at hl h0 h1 ⊢
  have HN := Lib.hid hnn
  clear hnn
  have e0 : ((n : Int) == 0) = false := by rw [beq_eq_false_iff_ne]; omega
  have e3 : (k == 3) = false := by rw [beq_eq_false_iff_ne]; exact h3
  have hcond : (n ≤ 1) ∨ (1 < n ∧ (k != 4) = false) := by
    rcases h1 with h | h
    · exact .inl (by omega)
    · by_cases hn1 : n ≤ 1
      · exact .inl hn1
      · exact .inr ⟨by omega, by simp [h]⟩
  have hpos : 0 < n := by omega
  clear h0
  have H3 := Lib.hid h3
  clear h1 h3
  rcases hcond with hn1 | ⟨hn1, b4⟩
  all_goals
    go_enter Tryd.func26, Tryd.ntmps26
    go_wp2
    go_loopw [8, 9, 10, 11] (fun v i x b wr => ∃ q : Nat, q ≤ n ∧ i = .int .i64 q ∧ wr.ownsRow (w.heap.size + 2) 2 1 v q (intsV ((ws.take q).map numV)) ∧ (ws.take q).all isNum = true ∧
        Below (w.heap.size + 2) ((w.alloc (.cells #[.int .i64 so, .int .i64 ro, .bool ol, .slice A we.length cap, .int .i64 qu, .int .i64 ti, .int .i64 pa] 29)).alloc (.cells #[.int .i64 0, .int .i64 0, .bool false, .slice none 0 0, .int .i64 0, .int .i64 0, .int .i64 0] 29)) wr)
      (fun _ i _ _ _ => n - (intOf i).toNat)
    case atStart => exact ⟨0, Nat.zero_le _, rfl, World.ownsRow_nil _ _ _ _, rfl, Below.refl _ _⟩
    case round =>
      obtain ⟨q, hq, rfl, hown, hall, hbl⟩ := hrel
      have HA := Lib.hid hall
      clear hall
      have hB := hbl.size
      have hB' : w.heap.size + 2 ≤ wr.heap.size := by simpa using hB
      clear hB
      have hbw : Below w.heap.size w wr := Below.trans (((Below.refl _ _).alloc (Nat.le_refl _) _).alloc (by simp) _) (hbl.mono (by omega))
      have q1 : wr.heap[w.heap.size]? = some (.cells #[.int .i64 so, .int .i64 ro, .bool ol, .slice A we.length cap, .int .i64 qu, .int .i64 ti, .int .i64 pa] 29 (0, 0)) := by
        rw [hbl.block _ (by omega), Below.heap_alloc _ _ _ (by simp)]; exact heap_alloc_new w _
      have q2 : wr.heap[w.heap.size + 1]? = some (.cells #[.int .i64 0, .int .i64 0, .bool false, .slice none 0 0, .int .i64 0, .int .i64 0, .int .i64 0] 29 (0, 0)) := by
        rw [hbl.block _ (by omega)]
        have := heap_alloc_new (w.alloc (.cells #[.int .i64 so, .int .i64 ro, .bool ol, .slice A we.length cap, .int .i64 qu, .int .i64 ti, .int .i64 pa] 29)) (.cells #[.int .i64 0, .int .i64 0, .bool false, .slice none 0 0, .int .i64 0, .int .i64 0, .int .i64 0] 29)
        simpa using this
      have Q1 := Lib.hid q1
      have Q2 := Lib.hid q2
      have f1 := fun i => cell_of_row wr w.heap.size i _ _ _ q1
      have f2 := fun i => cell_of_row wr (w.heap.size + 1) i _ _ _ q2
      have z2 := fun i => frozen_of_row wr (w.heap.size + 1) i _ _ q2
      clear q1 q2
      by_cases hlt : q < n
      · have hx : q < ws.length := by rw [← HN.out]; exact hlt
        obtain ⟨y, hy⟩ : ∃ y, y = ws[q] := ⟨_, rfl⟩
        have hys : y.length ≤ 1000000 := by rw [hy]; exact HZ.out _ (List.getElem_mem hx)
        have g1 : wr.cell? (ad.add q) = some (.string (bs y)) := (hbw.cell (by rw [block_of_add]; exact hb)).trans (by rw [hy]; exact HC.out q _ (strsV_get hx))
        have HY := Lib.hid hy
        clear hy
        have HS := Lib.hid (List.take_succ_eq_append_getElem hx)
        cases hin : isNum y
        · have HI := Lib.hid hin
          have hin2 : isNum (bs y).data.toList = false := by simpa using hin
          clear hin
          go_wp2_with (go_at_call 39; refine (Number_any (bs y) _ (by rw [bs_size]; exact hys)).mono ?_; rintro e w' ⟨rfl, rfl⟩)
          have HL : Hid (lineE k ws = 11) := by
            have : ws.all isNum = false := by rw [List.all_eq_false]; exact ⟨ws[q], List.getElem_mem hx, by rw [← HY.out, HI.out]; simp⟩
            show lineE k ws = 11
            rw [HE.out, this]; rfl
          exact bodyPost_ret (v := .tuple #[Cf.v ⟨so, ro, ol, we, qu, ti, pa⟩ A cap, .int .i64 11]) (by simp [results, Tryd.results26, go_sem, f1, f2]) rfl (LineRet.same (d := ⟨so, ro, ol, we, qu, ti, pa⟩) HL.out rfl rfl (by intro h; cases h) hcap hR hBw (by repeat (first | (with_reducible assumption) | (with_reducible exact Below.refl _ _) | (with_reducible refine Below.drewN ?_ _) | (with_reducible refine Below.drew ?_) | (with_reducible refine Below.setCell ?_ (by first | omega | (simp; done) | (simp; omega) | (simp [World.setCell]; done) | (simp [World.setCell]; omega)) _) | (with_reducible refine Below.alloc ?_ (by first | omega | (simp; done) | (simp; omega) | (simp [World.setCell]; done) | (simp [World.setCell]; omega)) _))))
        · have HI := Lib.hid hin
          have hin2 : isNum (bs y).data.toList = true := by simpa using hin
          clear hin
          go_wp2_with (first | (go_at_call 39; refine (Number_any (bs y) _ (by rw [bs_size]; exact hys)).mono ?_; rintro e w' ⟨rfl, rfl⟩) | (at_builtin; refine wpList_app1 El63 rfl _ _ rfl rfl hown rfl rfl (by simp [Value.oneCell']) (by omega) hB' hbl ?_; intro v' w2 hown' hb'))
          go_roundw
          case rel => exact ⟨q + 1, by omega, by go_num, by rw [HS.out, List.map_append, List.map_cons, List.map_nil, intsV_snoc, ← HY.out]; simpa using hown', by rw [HS.out, List.all_append, HA.out, ← HY.out]; simp [HI.out], hb'⟩
          case measure => simp [intOf]; omega
      · obtain rfl : q = n := by omega
        have e3 : ws.take q = ws := List.take_of_length_le (by rw [← HN.out]; exact Nat.le_refl _)
        rw [e3] at hown
        have HT : Hid (ws.all isNum = true) := by show ws.all isNum = true; rw [← e3]; exact HA.out
        clear e3
        obtain ⟨ns, hns⟩ : ∃ ns, ns = ws.map numV := ⟨_, rfl⟩
        rw [← hns] at hown
        have hnl : Hid (q = ns.length) := by show q = ns.length; rw [hns, List.length_map]; exact HN.out
        have HNS := Lib.hid hns
        clear hns
        obtain ⟨A', c', rfl, hc', hr'⟩ := Reads.of_own hown
        obtain ⟨ad', rfl, hb2, hcl⟩ := hr'.2 hpos
        have HCL := Lib.hid hcl
        have HO := Lib.hid hown
        clear hcl hown hr'
        go_wp2
        go_loopw [12] (fun i wr2 => ∃ p j : Nat, p ≤ q ∧ i = .int .i64 p ∧ wr2 = wr.drewN j ∧ (ns.take p).all (rngB k) = true) (fun i _ => q - (intOf i).toNat)
        case atStart => exact ⟨0, 0, Nat.zero_le _, rfl, rfl, rfl⟩
        case round =>
          obtain ⟨p, j, hp, rfl, rfl, hall⟩ := hrel
          have HA2 := Lib.hid hall
          clear hall
          by_cases hlt2 : p < q
          · have hx : p < ns.length := by rw [← hnl.out]; exact hlt2
            obtain ⟨y, hy⟩ : ∃ y, y = ns[p] := ⟨_, rfl⟩
            have g3 : wr.cell? (ad'.add p) = some (.int .i64 y) := by rw [hy]; exact HCL.out p _ (intsV_get hx)
            have HY := Lib.hid hy
            have HS := Lib.hid (List.take_succ_eq_append_getElem hx)
            clear hy
            by_cases b1 : y < lowI k
            · have d1 : decide (y < lowI k) = true := by simpa using b1
              go_wp2
              go_quiet ((first | (go_at_call 40; exact quiet_add_left (low_any _ _)) | (go_at_call 41; exact quiet_add_left (high_any _ _))))
              go_wp2
              have HL : Hid (lineE k ws = 33) := by
                have : ns.all (rngB k) = false := by rw [List.all_eq_false]; exact ⟨ns[p], List.getElem_mem hx, by rw [← HY.out]; simp [rngB]; omega⟩
                show lineE k ws = 33
                rw [HE.out, HT.out, ← HNS.out, this]; rfl
              exact bodyPost_ret (v := .tuple #[Cf.v ⟨so, ro, ol, we, qu, ti, pa⟩ A cap, .int .i64 33]) (by simp [results, Tryd.results26, go_sem, f1, f2]) rfl (LineRet.same (d := ⟨so, ro, ol, we, qu, ti, pa⟩) HL.out rfl rfl (by intro h; cases h) hcap hR hBw (by repeat (first | (with_reducible assumption) | (with_reducible exact Below.refl _ _) | (with_reducible refine Below.drewN ?_ _) | (with_reducible refine Below.drew ?_) | (with_reducible refine Below.setCell ?_ (by first | omega | (simp; done) | (simp; omega) | (simp [World.setCell]; done) | (simp [World.setCell]; omega)) _) | (with_reducible refine Below.alloc ?_ (by first | omega | (simp; done) | (simp; omega) | (simp [World.setCell]; done) | (simp [World.setCell]; omega)) _))))
            have d1 : decide (y < lowI k) = false := by simpa using b1
            by_cases b2 : highI k < y
            · have d2 : decide (highI k < y) = true := by simpa using b2
              go_wp2
              go_quiet ((first | (go_at_call 40; exact quiet_add_left (low_any _ _)) | (go_at_call 41; exact quiet_add_left (high_any _ _))))
              go_wp2
              have HL : Hid (lineE k ws = 33) := by
                have : ns.all (rngB k) = false := by rw [List.all_eq_false]; exact ⟨ns[p], List.getElem_mem hx, by rw [← HY.out]; simp [rngB]; omega⟩
                show lineE k ws = 33
                rw [HE.out, HT.out, ← HNS.out, this]; rfl
              exact bodyPost_ret (v := .tuple #[Cf.v ⟨so, ro, ol, we, qu, ti, pa⟩ A cap, .int .i64 33]) (by simp [results, Tryd.results26, go_sem, f1, f2]) rfl (LineRet.same (d := ⟨so, ro, ol, we, qu, ti, pa⟩) HL.out rfl rfl (by intro h; cases h) hcap hR hBw (by repeat (first | (with_reducible assumption) | (with_reducible exact Below.refl _ _) | (with_reducible refine Below.drewN ?_ _) | (with_reducible refine Below.drew ?_) | (with_reducible refine Below.setCell ?_ (by first | omega | (simp; done) | (simp; omega) | (simp [World.setCell]; done) | (simp [World.setCell]; omega)) _) | (with_reducible refine Below.alloc ?_ (by first | omega | (simp; done) | (simp; omega) | (simp [World.setCell]; done) | (simp [World.setCell]; omega)) _))))
            have d2 : decide (highI k < y) = false := by simpa using b2
            go_wp2
            go_quiet ((first | (go_at_call 40; exact quiet_add_left (low_any _ _)) | (go_at_call 41; exact quiet_add_left (high_any _ _))))
            go_wp2
            go_roundw
            case rel => exact ⟨p + 1, _, by omega, by go_num, (by first | rfl | exact World.drewN_drewN _ _ _), by rw [HS.out, List.all_append, HA2.out, ← HY.out]; simp [rngB]; omega⟩
            case measure => simp [intOf]; omega
          · have e3 : ns.take p = ns := List.take_of_length_le (by rw [← hnl.out]; omega)
            have HL : Hid (lineE k ws = 0) := by
              have := HA2.out
              rw [e3] at this
              show lineE k ws = 0
              rw [HE.out, HT.out, ← HNS.out, this]; rfl
            have HD : Hid (setC ⟨so, ro, ol, we, qu, ti, pa⟩ k ns = lineD ⟨so, ro, ol, we, qu, ti, pa⟩ k ws) := by
              show setC _ k ns = lineD _ k ws
              rw [lineD, if_neg H3.out, HNS.out]
            clear e3
            have hrA : Reads (wr.drewN j) (wr.drewN j).heap.size 1 (some ad') q (intsV ns) := by
              obtain ⟨A2, c2, hv2, _, hr2⟩ := Reads.of_own HO.out
              injection hv2 with hA _ _
              rw [hA]; exact hr2
            have hrC : RdP (wr.drewN j) p0 1 A we.length (intsV we) := hR.keep (fun b h => hbw.block b (hBw b h)) fun _ h => h
            have HRA := Lib.hid hrA
            have HRC := Lib.hid hrC
            clear hrA hrC
            have hset := set_any ⟨so, ro, ol, we, qu, ti, pa⟩ p0 A cap k ns (some ad') c' (wr.drewN j) (by rw [← hnl.out]; omega) (by rw [← hnl.out]; exact hpos) HRC.out (fun b h => by have := hBw b h; show b < wr.heap.size; omega) (by rw [← hnl.out]; exact HRA.out) hcap H3.out
            rw [← hnl.out] at hset
            have HSET := Lib.hid hset
            clear hset
            go_wp2_with fail
            refine HSET.out.mono ?_
            obtain ⟨D, hD⟩ : ∃ D, D = setC ⟨so, ro, ol, we, qu, ti, pa⟩ k ns := ⟨_, rfl⟩
            rw [← hD]
            have HDD := Lib.hid hD
            clear hD
            rintro e w3 ⟨A3, cap3, rfl, hc3, hr3, hb3⟩
            have q3 : w3.heap[w.heap.size + 1]? = some (.cells #[.int .i64 0, .int .i64 0, .bool false, .slice none 0 0, .int .i64 0, .int .i64 0, .int .i64 0] 29 (0, 0)) := (hb3.block _ (by show w.heap.size + 1 < wr.heap.size; omega)).trans Q2.out
            have f3 := fun i => cell_of_row w3 (w.heap.size + 1) i _ _ _ q3
            have z3 := fun i => frozen_of_row w3 (w.heap.size + 1) i _ _ q3
            have hsz3 : w.heap.size + 2 ≤ w3.heap.size := by have := hb3.size; have h5 : (wr.drewN j).heap.size = wr.heap.size := rfl; omega
            have hbw3 : Below w.heap.size w w3 := (hbw.drewN j).trans (hb3.mono (by show w.heap.size ≤ wr.heap.size; omega))
            clear f1 f2 z2
            have HR3 := Lib.hid hr3
            clear hr3
            go_wp2
            refine bodyPost_ret (v := .tuple #[D.v A3 cap3, .int .i64 0]) (by simp [results, Tryd.results26, go_sem, f3]) rfl ⟨D, A3, cap3, by rw [HL.out], fun _ => HDD.out.trans HD.out, hc3, ?_, ?_⟩
            · have hbo : ∀ a : Nat, (fun b => (p0 b ∨ wr.heap.size ≤ b) ∧ b < w3.heap.size) a → ¬ a = w.heap.size + 1 := by
                rintro a ⟨h1 | h1, h2⟩ rfl
                · have := hBw _ h1; omega
                · omega
              have hr4 : RdP w3 (fun b => (p0 b ∨ wr.heap.size ≤ b) ∧ b < w3.heap.size) 1 A3 D.we.length (intsV D.we) := HR3.out
              refine RdP.mono (p := fun b => (p0 b ∨ wr.heap.size ≤ b) ∧ b < w3.heap.size) ?_ ?_
              · have S := fun (V : World) (i : Nat) (u : Value) (h : RdP V (fun b => (p0 b ∨ wr.heap.size ≤ b) ∧ b < w3.heap.size) 1 A3 D.we.length (intsV D.we)) => RdP.setCell (a := ⟨w.heap.size + 1, i, none⟩) h (fun hb => hbo _ hb rfl) u
                exact S _ _ _ (S _ _ _ (S _ _ _ (S _ _ _ (S _ _ _ (S _ _ _ (S _ _ _ hr4))))))
              · rintro b ⟨h1, h2⟩
                refine ⟨h1.imp id (fun h => by omega), by simpa [World.setCell] using h2⟩
            · exact (by repeat (first | (with_reducible assumption) | (with_reducible exact Below.refl _ _) | (with_reducible refine Below.drewN ?_ _) | (with_reducible refine Below.drew ?_) | (with_reducible refine Below.setCell ?_ (by first | omega | (simp; done) | (simp; omega) | (simp [World.setCell]; done) | (simp [World.setCell]; omega)) _) | (with_reducible refine Below.alloc ?_ (by first | omega | (simp; done) | (simp; omega) | (simp [World.setCell]; done) | (simp [World.setCell]; omega)) _)))

theorem line_any (c : Cf) (p : Nat → Prop) (A : Option Addr) (cap : Nat) (k : Int) (ws : List (List UInt8)) (W : Option Addr) (wc : Nat) (w : World) (hl : ws.length ≤ 1000) (hsz : ∀ x ∈ ws, x.length ≤ 1000000)
    (hR : RdP w p 1 A c.we.length (intsV c.we)) (hBw : ∀ b, p b → b < w.heap.size) (hcap : c.we.length ≤ cap) (hW : Reads w w.heap.size 1 W ws.length (strsV ws)) :
    Calls Tryd.prog 26 #[c.v A cap, .int .i64 k, .slice W ws.length wc] w (LineRet w p c k ws) := by
  by_cases h0 : ws.length = 0 ∨ (1 < ws.length ∧ k ≠ 4)
  · exact line_none_any c p A cap k ws W wc w hl hR hBw hcap h0
  · by_cases h3 : k = 3
    · subst h3
      have h1 : ws.length = 1 := by omega
      match ws, h1 with
      | [x], _ => exact line_policy_any c p A cap x W wc w hR hBw hcap hW
    · exact line_nums_any c p A cap k ws W wc w hl hsz hR hBw hcap hW (by omega) (by omega) h3
end Go.Proofs.YtmmmepmjmofbjaaDoor
