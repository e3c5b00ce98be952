/- The law ConfLines returns true. -/
import Derived.Test.YtmmmepmjmofbjaaDoorProg
import Derived.Test.YtmmmepmjmofbjaaDoorInf
import Derived.Test.YtmmmepmjmofbjaaDoorConfX
import Derived.Test.YtmmmepmjmofbjaaDoorConfBk
import Derived.Test.YtmmmepmjmofbjaaDoorPlainM
import Derived.Deep.RegionHeld3
import Derived.Deep.DrawnRows
import Derived.Deep.DeepCutAuto
set_option linter.unusedVariables false
namespace Go.Proofs.YtmmmepmjmofbjaaDoor
open Go Go.RowKit

theorem cat_big {a b : ByteArray} {la lb : List UInt8} (ha : Hid (a = bs la)) (hb : Hid (b = bs lb)) (hl : la.length + lb.length ≤ 9000000000000000000) :
    ∃ s : ByteArray, Hid (s = bs (la ++ lb)) ∧ ∀ t, binOp .add t (.string a) (.string b) = pure (.string s) := by
  refine ⟨a ++ b, ?_, fun t => ?_⟩
  · show _ = _
    rw [ha.out, hb.out]; apply ByteArray.ext; simp [ByteArray.data_append]
  · have e1 : a.size = la.length := by rw [ha.out, bs_size]
    have e2 : b.size = lb.length := by rw [hb.out, bs_size]
    rw [binOp_string_add]
    unfold Op.stringOp
    have : ¬ (((a.size + b.size : Nat) : Int) > IntKind.i64.max) := by
      have : IntKind.i64.max = 9223372036854775807 := rfl
      omega
    simp only [if_neg this]
def blankL (b : Bool) : List UInt8 := if b then [32, 32, 32] else [32]
theorem blank_all (b : Bool) : ∀ y ∈ blankL b, y = 32 := by cases b <;> simp [blankL]
theorem blank_len (b : Bool) : (blankL b).length ≤ 3 := by cases b <;> decide
theorem sL_len {ls : List (List UInt8)} (h : ∀ x ∈ ls, x.length ≤ 200000000000000) : ∀ k, (sL ls k).length ≤ 200000000000001 * k
  | 0 => by simp [sL]
  | k + 1 => by
    by_cases hk : k < ls.length
    · have ih := sL_len h k
      have := h _ (List.getElem_mem hk)
      rw [sL_succ hk]
      simp only [List.length_append, nl, List.length_cons, List.length_nil]
      omega
    · have ih := sL_len h k
      have e : sL ls (k + 1) = sL ls k := by simp only [sL]; rw [List.take_of_length_le (by omega), List.take_of_length_le (by omega)]
      rw [e]; omega
theorem turned_mem {ls : List (List UInt8)} (h : ls.length ≠ 0) (turn i : Nat) : turned ls turn i ∈ ls := by
  unfold turned
  have := Nat.mod_lt (i + turn) (Nat.pos_of_ne_zero h)
  rw [List.getD_eq_getElem?_getD, List.getElem?_eq_getElem this]
  exact List.getElem_mem _
theorem tL_len {ls : List (List UInt8)} (h : ∀ x ∈ ls, x.length ≤ 200000000000000) (hn : ls.length ≠ 0) (turn : Nat) (b : Bool) : ∀ k, (tL ls turn (blankL b) k).length ≤ 200000000000020 * k
  | 0 => by simp [tL]
  | k + 1 => by
    have ih := tL_len h hn turn b k
    have h1 := h _ (turned_mem hn turn k)
    have h2 := blank_len b
    rw [tL_succ]
    simp only [List.length_append, padL, List.length_cons, List.length_nil]
    omega
theorem no10_snoc {l : List UInt8} {k : Nat} (hk : k < l.length) (h : (10 : UInt8) ∉ l.take k) (hx : ¬ l[k] = 10) : (10 : UInt8) ∉ l.take (k + 1) := by
  rw [List.take_succ_eq_append_getElem hk]
  intro hm
  rcases List.mem_append.1 hm with hm | hm
  · exact h hm
  · simp only [List.mem_singleton] at hm; exact hx hm.symm

set_option maxRecDepth 100000 in
set_option maxHeartbeats 6400000 in
theorem ConfLines_any (ls : List (List UInt8)) (A : Option Addr) (cap turn : Nat) (blank : Bool) (w : World) (hE : Env w) (hR : Reads w w.heap.size 1 A ls.length (strsV ls)) (hl : ls.length ≤ 9223372036854775807) (hls : ∀ x ∈ ls, x.length ≤ 200000000000000) (htn : turn ≤ 255) :
    Calls Tryd.prog 6 #[.slice A ls.length cap, .int .u8 turn, .bool blank] w fun e w' => e = .returned (.bool true) ∧ Below w.heap.size w w' := by
  have HE := Lib.hid hE
  have HR := Lib.hid hR
  have HLS := Lib.hid hls
  clear hE hR hls
  obtain ⟨n, hn⟩ : ∃ n, n = ls.length := ⟨_, rfl⟩
  rw [← hn] at HR hl ⊢
  have HN := Lib.hid hn
  clear hn
  go_enter Tryd.func6, Tryd.ntmps6
  go_wp2_with fail
  refine (awake_any _ (HE.out.out (by repeat (first | (with_reducible assumption) | (with_reducible exact Below.refl _ _) | (with_reducible refine Below.drewN ?_ _) | (with_reducible refine Below.drew ?_) | (with_reducible refine Below.setCell ?_ (by first | omega | (simp; done) | (simp; omega) | (simp [World.setCell]; done) | (simp [World.setCell]; omega)) _) | (with_reducible refine Below.alloc ?_ (by first | omega | (simp; done) | (simp; omega) | (simp [World.setCell]; done) | (simp [World.setCell]; omega)) _))))).mono ?_
  rintro e w1 ⟨rfl, hb1⟩
  by_cases hlong : 10 < n
  · go_wp2
    go_ret
    exact ⟨rfl, hb1⟩
  go_upto_if 25 with fail
  go_cut [10] (fun s10 wx => ∃ bb : ByteArray, s10 = .string bb ∧ Hid (bb = bs (blankL blank)) ∧ wx = w1)
  case first =>
    cases blank
    · go_wp2_with fail
      go_meet
      exact ⟨_, rfl, rfl, rfl⟩
    · go_wp2_with fail
      go_meet
      exact ⟨_, rfl, rfl, rfl⟩
  case rest =>
    obtain ⟨bb, rfl, BB, rfl⟩ := hcut
    have R1 := Lib.hid (HR.out.out hb1)
    clear HR
    go_wp2_with fail
    go_loop [8, 9, 11, 12] (fun s t i _ => ∃ (q : Nat) (sk tk : ByteArray), q ≤ n ∧ i = .int .i64 q ∧ s = .string sk ∧ t = .string tk ∧ Hid (sk = bs (sL ls q)) ∧ Hid (tk = bs (tL ls turn (blankL blank) q)) ∧ Hid (∀ j, (hj : j < ls.length) → j < q → (10 : UInt8) ∉ ls[j])) (fun _ _ i _ => n - (intOf i).toNat)
    case atStart => exact ⟨0, ⟨#[]⟩, ⟨#[]⟩, Nat.zero_le _, rfl, rfl, rfl, rfl, rfl, fun j _ hj => absurd hj (Nat.not_lt_zero _)⟩
    case round =>
      obtain ⟨q, sk, tk, hq, rfl, rfl, rfl, SK, TK, NO⟩ := hrel
      by_cases hltq : q < n
      · have hx : q < ls.length := by rw [← HN.out]; exact hltq
        have hne : ls.length ≠ 0 := by omega
        obtain ⟨ad, hA, hab, hac⟩ := R1.out.2 (by omega)
        subst hA
        obtain ⟨y, hy⟩ : ∃ y, y = bs ls[q] := ⟨_, rfl⟩
        have g1 : wc.cell? (ad.add q) = some (.string y) := by rw [hy]; exact hac q _ (strsV_get hx)
        obtain ⟨p, hp⟩ : ∃ p, p = (q + turn) % ls.length := ⟨_, rfl⟩
        have hpn : p < n := by rw [hp, HN.out]; exact Nat.mod_lt _ (Nat.pos_of_ne_zero hne)
        have hmod : ((q : Int) + (turn : Int)) % (n : Int) = (p : Int) := by rw [hp, HN.out]; simp
        have hpx : p < ls.length := by rw [← HN.out]; exact hpn
        obtain ⟨z, hz⟩ : ∃ z, z = bs ls[p] := ⟨_, rfl⟩
        have g2 : wc.cell? (ad.add p) = some (.string z) := by rw [hz]; exact hac p _ (strsV_get hpx)
        have HY := Lib.hid hy
        have HZ := Lib.hid hz
        have hTU : Hid (turned ls turn q = ls[p]) := by
          show turned ls turn q = _
          unfold turned
          rw [List.getD_eq_getElem?_getD, ← hp, List.getElem?_eq_getElem hpx]; rfl
        have y1 := HLS.out _ (List.getElem_mem hx)
        have z1 := HLS.out _ (List.getElem_mem hpx)
        have l1 := sL_len HLS.out q
        have l2 := tL_len HLS.out hne turn blank q
        have l3 := blank_len blank
        have l4 := sL_len HLS.out q
        have hq10 : q ≤ 10 := by omega
        obtain ⟨a1, A1, r1⟩ := cat_big (b := ⟨#[10]⟩) (lb := [10]) HY rfl (by simp; omega)
        obtain ⟨a2, A2, r2⟩ := cat_big SK A1 (by simp; omega)
        obtain ⟨b1, B1, su1⟩ := cat_big (a := ⟨#[35, 32]⟩) (la := [35, 32]) rfl BB (by simp; omega)
        obtain ⟨b2, B2, su2⟩ := cat_big (b := ⟨#[10]⟩) (lb := [10]) B1 rfl (by simp; omega)
        obtain ⟨b3, B3, su3⟩ := cat_big B2 BB (by simp; omega)
        obtain ⟨b4, B4, su4⟩ := cat_big B3 HZ (by simp; omega)
        obtain ⟨b5, B5, su5⟩ := cat_big B4 BB (by simp; omega)
        obtain ⟨b6, B6, su6⟩ := cat_big (b := ⟨#[10]⟩) (lb := [10]) B5 rfl (by simp; omega)
        obtain ⟨b7, B7, su7⟩ := cat_big TK B6 (by simp; omega)
        have ys : y.size = ls[q].length := by rw [hy, bs_size]
        have YS := Lib.hid ys
        have hsn : Hid (a2 = bs (sL ls (q + 1))) := by show _ = _; rw [A2.out, sL_succ hx]; rfl
        have htn2 : Hid (b7 = bs (tL ls turn (blankL blank) (q + 1))) := by show _ = _; rw [B7.out, tL_succ, hTU.out]; simp [padL]
        clear hy hz hp y1 z1 l1 l2 l3 l4 A1 A2 B1 B2 B3 B4 B5 B6 B7 ys hac hab
        by_cases h40 : 40 < y.size
        · clear hmod r1 r2 su1 su2 su3 su4 su5 su6 su7
          go_wp2
          go_ret
          exact ⟨rfl, hb1⟩
        have hmod := Lib.hid hmod
        go_wp2_with fail
        go_loop [12] (fun i => ∃ k : Nat, k ≤ y.size ∧ i = .int .i64 k ∧ Hid ((10 : UInt8) ∉ ls[q].take k)) (fun i => y.size - (intOf i).toNat)
        case atStart => exact ⟨0, Nat.zero_le _, rfl, by show ¬ _; simp⟩
        case round =>
          obtain ⟨k, hk, rfl, NK⟩ := hrel
          by_cases hltk : k < y.size
          · have hkx : k < ls[q].length := by rw [← YS.out]; exact hltk
            have hyk : Hid (y[k] = ls[q][k]) := by
              have hy2 := HY.out
              show _ = _
              subst hy2
              rfl
            by_cases h10 : ((y[k].toNat : Int) == 10) = true
            · clear r1 r2 su1 su2 su3 su4 su5 su6 su7
              go_wp2
              go_ret
              exact ⟨rfl, hb1⟩
            · have h10' : ((y[k].toNat : Int) == 10) = false := by simpa using h10
              clear h10 r1 r2 su1 su2 su3 su4 su5 su6 su7
              have hne10 : Hid (¬ ls[q][k] = 10) := by
                show ¬ _
                rw [← hyk.out]
                intro e
                rw [e] at h10'
                simp at h10'
              go_wp2
              go_round
              case rel => exact ⟨k + 1, by omega, by go_num, no10_snoc hkx NK.out hne10.out⟩
              case measure => simp [intOf]; omega
          · have hno : Hid ((10 : UInt8) ∉ ls[q]) := by
              have := NK.out
              rw [List.take_of_length_le (by rw [← YS.out]; omega)] at this
              exact this
            have hmod2 := hmod.out
            go_wp2
            go_round
            case rel =>
              refine ⟨q + 1, a2, b7, by omega, by go_num, rfl, rfl, hsn, htn2, fun j hj hjq => ?_⟩
              by_cases e : j = q
              · subst e; exact hno.out
              · exact NO.out j hj (by omega)
            case measure => simp [intOf]; omega
      · obtain rfl : q = n := by omega
        have hts : tk.size = (tL ls turn (blankL blank) ls.length).length := by rw [TK.out, bs_size, HN.out]
        have HTS := Lib.hid hts
        clear hts
        by_cases h512 : 512 < tk.size
        · go_wp2
          go_ret
          exact ⟨rfl, hb1⟩
        have htl : (tL ls turn (blankL blank) ls.length).length ≤ 512 := by rw [← HTS.out]; omega
        have hno : ∀ x ∈ ls, (10 : UInt8) ∉ x := fun x hx => by
          obtain ⟨j, hj, rfl⟩ := List.mem_iff_getElem.1 hx
          exact NO.out j hj (by rw [HN.out]; exact hj)
        have HL := Lib.hid (lines_law ls turn (blankL blank) (blank_all blank) hno htl)
        have hsl := turn_len ls turn (blankL blank)
        have hs1 : sk.size ≤ 512 := by rw [SK.out, bs_size, HN.out]; omega
        have e1 : sk.data.toList = sL ls ls.length := by rw [SK.out, bs_data, HN.out]
        have e2 : tk.data.toList = tL ls turn (blankL blank) ls.length := by rw [TK.out, bs_data, HN.out]
        have RD1 := Read_any sk wc (HE.out.out hb1) (by omega)
        have n1 := readS_len sk.data.toList
        rw [e1] at RD1 n1
        have RD2 : Hid (∀ V, Below w.heap.size w V → Calls Tryd.prog 9 #[.string tk] V (ReadRet V (readS (tL ls turn (blankL blank) ls.length)))) := fun V hV => by
          have := Read_any tk V (HE.out.out hV) (by omega)
          rwa [e2] at this
        obtain ⟨ra, hra⟩ : ∃ r, r = readS (sL ls ls.length) := ⟨_, rfl⟩
        obtain ⟨rb, hrb⟩ : ∃ r, r = readS (tL ls turn (blankL blank) ls.length) := ⟨_, rfl⟩
        have n2 := readS_len (tL ls turn (blankL blank) ls.length)
        rw [← hra] at RD1 HL n1
        rw [← hrb] at RD2 HL n2
        have RD1 := Lib.hid RD1
        clear hra hrb e1 e2 hsl htl SK TK NO HLS hltq
        obtain ⟨⟨so, ro, ol, we, qu, ti, pa⟩, er, ka⟩ := ra
        obtain ⟨⟨so', ro', ol', we', qu', ti', pa'⟩, er', kb⟩ := rb
        simp only at HL n1 n2
        go_wp2_with fail
        refine RD1.out.mono ?_
        rintro e w3 ⟨A3, c3, rfl, hc3, hr3, hb3⟩
        simp only [Cf.v] at hc3 hr3 ⊢
        obtain ⟨na, hna⟩ : ∃ na, na = we.length := ⟨_, rfl⟩
        rw [← hna] at hc3 hr3 n1 ⊢
        have HNA := Lib.hid hna
        clear hna
        have hbw4 : Below w.heap.size w (w3.alloc (.cells #[.int .i64 so, .int .i64 ro, .bool ol, .slice A3 na c3, .int .i64 qu, .int .i64 ti, .int .i64 pa] 25)) := Below.trans (hb1.trans (hb3.mono hb1.size)) ((Below.refl _ _).alloc (by have := hb1.size; have := hb3.size; omega) _)
        have RD2 := Lib.hid (RD2.out _ hbw4)
        go_wp2_with fail
        refine RD2.out.mono ?_
        rintro e w5 ⟨A5, c5, rfl, hc5, hr5, hb5⟩
        simp only [Cf.v] at hc5 hr5 ⊢
        obtain ⟨nb, hnb⟩ : ∃ nb, nb = we'.length := ⟨_, rfl⟩
        rw [← hnb] at hc5 hr5 n2 ⊢
        have HNB := Lib.hid hnb
        clear hnb
        have hs5 : w3.heap.size + 1 ≤ w5.heap.size := by simpa using hb5.size
        have hbw6 : Hid (Below w.heap.size w (w5.alloc (.cells #[.int .i64 so', .int .i64 ro', .bool ol', .slice A5 nb c5, .int .i64 qu', .int .i64 ti', .int .i64 pa'] 25))) := Below.trans (hbw4.trans (hb5.mono hbw4.size)) ((Below.refl _ _).alloc (by have := hbw4.size; have := hb5.size; omega) _)
        by_cases hf : er = 0
        · subst hf
          obtain ⟨hf2, hcc⟩ := HL.out.2 rfl
          subst hf2
          simp only [Cf.mk.injEq] at hcc
          obtain ⟨rfl, rfl, rfl, rfl, rfl, rfl, rfl⟩ := hcc
          obtain rfl : na = nb := HNA.out.trans HNB.out.symm
          have R3 : Hid (Reads (w5.alloc (.cells #[.int .i64 so', .int .i64 ro', .bool ol', .slice A5 na c5, .int .i64 qu', .int .i64 ti', .int .i64 pa'] 25)) (w5.alloc (.cells #[.int .i64 so', .int .i64 ro', .bool ol', .slice A5 na c5, .int .i64 qu', .int .i64 ti', .int .i64 pa'] 25)).heap.size 1 A3 na (intsV we')) :=
            (hr3.toReads (B := w3.heap.size) fun _ h => h.2).out (Below.trans (((Below.refl _ _).alloc (Nat.le_refl _) _).trans (hb5.mono (by simp))) ((Below.refl _ _).alloc (by omega) _))
          have R5 : Hid (Reads (w5.alloc (.cells #[.int .i64 so', .int .i64 ro', .bool ol', .slice A5 na c5, .int .i64 qu', .int .i64 ti', .int .i64 pa'] 25)) (w5.alloc (.cells #[.int .i64 so', .int .i64 ro', .bool ol', .slice A5 na c5, .int .i64 qu', .int .i64 ti', .int .i64 pa'] 25)).heap.size 1 A5 na (intsV we')) :=
            (hr5.toReads (B := w5.heap.size) fun _ h => h.2).out ((Below.refl _ _).alloc (Nat.le_refl _) _)
          have q4 : (w5.alloc (.cells #[.int .i64 so', .int .i64 ro', .bool ol', .slice A5 na c5, .int .i64 qu', .int .i64 ti', .int .i64 pa'] 25)).heap[w3.heap.size]? = some (.cells #[.int .i64 so', .int .i64 ro', .bool ol', .slice A3 na c3, .int .i64 qu', .int .i64 ti', .int .i64 pa'] 25 (0, 0)) := by
            rw [Below.heap_alloc w5 _ _ (by omega), hb5.block _ (by simp)]; exact heap_alloc_new w3 _
          have q6 : (w5.alloc (.cells #[.int .i64 so', .int .i64 ro', .bool ol', .slice A5 na c5, .int .i64 qu', .int .i64 ti', .int .i64 pa'] 25)).heap[w5.heap.size]? = some (.cells #[.int .i64 so', .int .i64 ro', .bool ol', .slice A5 na c5, .int .i64 qu', .int .i64 ti', .int .i64 pa'] 25 (0, 0)) := heap_alloc_new w5 _
          clear hr3 hr5 hb3 hb5 hbw4 HL hno HTS h512 hs1 R1
          go_upto_region 29 with fail
          obtain ⟨h4, hh4⟩ : ∃ h4, h4 = w3.heap.size := ⟨_, rfl⟩
          obtain ⟨h6, hh6⟩ : ∃ h6, h6 = w5.heap.size := ⟨_, rfl⟩
          obtain ⟨w6, hw6⟩ : ∃ w6, w6 = w5.alloc (.cells #[.int .i64 so', .int .i64 ro', .bool ol', .slice A5 na c5, .int .i64 qu', .int .i64 ti', .int .i64 pa'] 25) := ⟨_, rfl⟩
          rw [← hw6] at q4 q6 R3 R5 hbw6 ⊢
          rw [← hh4] at q4 ⊢
          rw [← hh6] at q6 ⊢
          have HS : Hid (∀ V, Below w6.heap.size w6 V → (V.cell? ⟨h4, 0, none⟩ = some (.int .i64 so') ∧ V.cell? ⟨h4, 1, none⟩ = some (.int .i64 ro') ∧ V.cell? ⟨h4, 2, none⟩ = some (.bool ol') ∧ V.cell? ⟨h4, 3, none⟩ = some (.slice A3 na c3) ∧ V.cell? ⟨h4, 4, none⟩ = some (.int .i64 qu') ∧ V.cell? ⟨h4, 5, none⟩ = some (.int .i64 ti') ∧ V.cell? ⟨h4, 6, none⟩ = some (.int .i64 pa')) ∧ (V.cell? ⟨h6, 0, none⟩ = some (.int .i64 so') ∧ V.cell? ⟨h6, 1, none⟩ = some (.int .i64 ro') ∧ V.cell? ⟨h6, 2, none⟩ = some (.bool ol') ∧ V.cell? ⟨h6, 3, none⟩ = some (.slice A5 na c5) ∧ V.cell? ⟨h6, 4, none⟩ = some (.int .i64 qu') ∧ V.cell? ⟨h6, 5, none⟩ = some (.int .i64 ti') ∧ V.cell? ⟨h6, 6, none⟩ = some (.int .i64 pa'))) := by
            intro V hV
            obtain ⟨c2, c4⟩ := two_cells q4 q6 hV
            exact ⟨⟨c2 0, c2 1, c2 2, c2 3, c2 4, c2 5, c2 6⟩, ⟨c4 0, c4 1, c4 2, c4 3, c4 4, c4 5, c4 6⟩⟩
          have J6 : Hid (Below w6.heap.size w6 w6.drew) := (Below.refl _ _).drew
          have KS : Hid (∀ V, Below w6.heap.size w6 V → Calls Tryd.prog 11 #[cfv so' ro' ol' A3 na c3 qu' ti' pa', cfv so' ro' ol' A5 na c5 qu' ti' pa'] V fun e w' => e = .returned (.bool true) ∧ Below V.heap.size V w') :=
            fun V hV => same_at so' ro' ol' we' qu' ti' pa' na HNA A3 A5 c3 c5 V (by omega) (R3.out.out hV) (R5.out.out hV)
          clear q4 q6 hw6 hh4 hh6 hs5
          go_region_held3 (fun w' => (w'.cell? ⟨h4, 0, none⟩ = some (.int .i64 so') ∧ w'.cell? ⟨h4, 1, none⟩ = some (.int .i64 ro') ∧ w'.cell? ⟨h4, 2, none⟩ = some (.bool ol') ∧ w'.cell? ⟨h4, 3, none⟩ = some (.slice A3 na c3) ∧ w'.cell? ⟨h4, 4, none⟩ = some (.int .i64 qu') ∧ w'.cell? ⟨h4, 5, none⟩ = some (.int .i64 ti') ∧ w'.cell? ⟨h4, 6, none⟩ = some (.int .i64 pa')) ∧ (w'.cell? ⟨h6, 0, none⟩ = some (.int .i64 so') ∧ w'.cell? ⟨h6, 1, none⟩ = some (.int .i64 ro') ∧ w'.cell? ⟨h6, 2, none⟩ = some (.bool ol') ∧ w'.cell? ⟨h6, 3, none⟩ = some (.slice A5 na c5) ∧ w'.cell? ⟨h6, 4, none⟩ = some (.int .i64 qu') ∧ w'.cell? ⟨h6, 5, none⟩ = some (.int .i64 ti') ∧ w'.cell? ⟨h6, 6, none⟩ = some (.int .i64 pa')))
            (first | exact HS.out _ J6.out | exact HS.out _ I7.out | exact HS.out _ I8.out | exact HS.out _ I9.out)
            (first
              | (go_at_call 12; ((with_reducible refine (upto_at J6 (plain_any so' ro' ol' A3 na c3 qu' ti' pa' _)).mono ?_); rintro e w7 ⟨rfl, I7⟩))
              | (go_at_call 12; ((with_reducible refine (upto_at I7 (plain_any so' ro' ol' A5 na c5 qu' ti' pa' _)).mono ?_); rintro e w8 ⟨rfl, I8⟩))
              | (go_at_call 11; ((with_reducible refine (upto_at I8 (KS.out _ I8.out)).mono ?_); rintro e w9 ⟨rfl, I9⟩)))
          go_wp2
          go_ret
          exact ⟨rfl, hbw6.out.trans (I9.out.mono hbw6.out.size)⟩
        · have hf2 := HL.out.1 hf
          have d1 : (er != 0) = true := by simp [hf]
          have d2 : (er' != 0) = true := by simpa using hf2
          clear hf hf2
          go_wp2
          go_ret
          exact ⟨rfl, hbw6.out⟩
end Go.Proofs.YtmmmepmjmofbjaaDoor
