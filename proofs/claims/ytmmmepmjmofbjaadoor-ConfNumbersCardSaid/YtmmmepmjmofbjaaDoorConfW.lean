/- lookoutref17.Show = showS. -/
import Derived.Test.YtmmmepmjmofbjaaDoorProg
import Derived.Test.YtmmmepmjmofbjaaDoorInf
import Derived.Test.YtmmmepmjmofbjaaDoorConfD
import Derived.Test.YtmmmepmjmofbjaaDoorConfG
import Derived.Test.YtmmmepmjmofbjaaDoorConfV
import Derived.Deep.RegionHeld3
import Derived.Deep.DrawnRows
set_option linter.unusedVariables false
namespace Go.Proofs.YtmmmepmjmofbjaaDoor
open Go Go.RowKit

/-- Digits, where the world only grows -/
theorem Dig_any (n : Int) (w : World) (h0 : 0 ≤ n) (h1 : n ≤ 9223372036854775807) :
    Calls Tryd.prog 17 #[.int .i64 n] w fun e w' => e = .returned (.string (bs (Lib.itoa n))) ∧ Below w.heap.size w w' := Digits_pos n w h0 h1
/-- what Show keeps of its configuration -/
structure ShR (w : World) (row : Array Value) (V : World) : Prop where
  below : Below w.heap.size w V
  row : V.heap[w.heap.size]? = some (.cells row 29 (0, 0))
theorem ShR.drew {w V : World} {row : Array Value} (h : ShR w row V) : ShR w row V.drew := ⟨h.below.drew, h.row⟩
theorem ShR.lt {w V : World} {row : Array Value} (h : ShR w row V) : w.heap.size < V.heap.size := (Array.getElem?_eq_some_iff.1 h.row).1
theorem ShR.out {w V V' : World} {row : Array Value} (h : ShR w row V) (hb : Below V.heap.size V V') : ShR w row V' := ⟨h.below.trans (hb.mono (Nat.le_of_lt h.lt)), (hb.block _ h.lt).trans h.row⟩
theorem ShR.cell {w V : World} {row : Array Value} (h : ShR w row V) (i : Nat) : V.cell? ⟨w.heap.size, i, none⟩ = row[i]? := cell_of_row V w.heap.size i _ _ _ h.row
abbrev rowC (so ro : Int) (ol : Bool) (A : Option Addr) (n cap : Nat) (qu ti pa : Int) : Array Value := #[.int .i64 so, .int .i64 ro, .bool ol, .slice A n cap, .int .i64 qu, .int .i64 ti, .int .i64 pa]
theorem Dig_at {w V : World} {row : Array Value} (h : Hid (ShR w row V)) (n : Int) (h0 : 0 ≤ n) (h1 : n ≤ 9223372036854775807) (d : ByteArray) (hd : Hid (d = bs (Lib.itoa n))) :
    Calls Tryd.prog 17 #[.int .i64 n] V fun e w' => e = .returned (.string d) ∧ Hid (ShR w row w') ∧ (∀ i, w'.cell? ⟨w.heap.size, i, none⟩ = row[i]?) :=
  (Digits_pos n V h0 h1).mono fun _ _ ⟨he, hb⟩ => ⟨by rw [he, hd.out], h.out.out hb, (h.out.out hb).cell⟩
theorem dig_of (n : Int) (h0 : 0 ≤ n) (h1 : n ≤ 9223372036854775807) : ∃ d : ByteArray, Hid (d = bs (Lib.itoa n)) ∧ Hid ((Lib.itoa n).length ≤ 21) :=
  ⟨_, rfl, Lib.itoa_length_le n (by omega) h1⟩
/-- a sum of texts, under a name -/
theorem cat_of {a b : ByteArray} {la lb : List UInt8} (ha : Hid (a = bs la)) (hb : Hid (b = bs lb)) (hl : la.length + lb.length ≤ 1000000) :
    ∃ s : ByteArray, Hid (s = bs (la ++ lb)) ∧ ∀ t, binOp .add t (.string a) (.string b) = pure (.string s) := by
  refine ⟨a ++ b, ?_, fun t => ?_⟩
  · show _ = _
    rw [ha.out, hb.out]; apply ByteArray.ext; simp [ByteArray.data_append]
  · have e1 : a.size = la.length := by rw [ha.out, bs_size]
    have e2 : b.size = lb.length := by rw [hb.out, bs_size]
    rw [binOp_string_add]
    unfold Op.stringOp
    have : ¬ (((a.size + b.size : Nat) : Int) > IntKind.i64.max) := by
      have : IntKind.i64.max = 9223372036854775807 := rfl
      omega
    simp only [if_neg this]
/-- the first line and the second -/
def headL (so ro : Int) : List UInt8 := [115, 111, 117, 114, 99, 101, 115, 32] ++ Lib.itoa so ++ [10] ++ [114, 111, 111, 109, 32] ++ Lib.itoa ro ++ [10]
def polL (ol : Bool) : List UInt8 := if ol then [112, 111, 108, 105, 99, 121, 32, 111, 108, 100, 101, 115, 116, 10, 119, 101, 105, 103, 104, 116, 115] else [112, 111, 108, 105, 99, 121, 32, 116, 97, 105, 108, 10, 119, 101, 105, 103, 104, 116, 115]
theorem show_eq (so ro : Int) (ol : Bool) (we : List Int) (qu ti pa : Int) :
    headL so ro ++ polL ol ++ numsOf 3 we ++ [10, 113, 117, 97, 110, 116, 117, 109, 32] ++ Lib.itoa qu ++ [10, 116, 105, 109, 101, 111, 117, 116, 32] ++ Lib.itoa ti ++ [10, 112, 97, 116, 105, 101, 110, 99, 101, 32] ++ Lib.itoa pa ++ [10] = linesTo ⟨so, ro, ol, we, qu, ti, pa⟩ 7 := by
  cases ol <;> simp [linesTo, List.range_succ, lineOf, numsOf, tellL, words7, wordOf, headL, polL]

set_option maxRecDepth 100000 in
set_option maxHeartbeats 3200000 in
theorem RefShow_any (c : Cf) (A : Option Addr) (cap : Nat) (w : World) (hl : c.we.length ≤ 1000) (hR : Reads w w.heap.size 1 A c.we.length (intsV c.we)) (ht : c.ti ≤ 9223372036854775807) (hp : c.pa ≤ 9223372036854775807) :
    Calls Tryd.prog 16 #[c.v A cap] w fun e w' => e = .returned (.string (bs (showS c))) ∧ Below w.heap.size w w' := by
  have HCK : Hid (∀ V, Below w.heap.size w V → Calls Tryd.prog 14 #[c.v A cap] V fun e w' => e = .returned (.int .i64 (checkE c)) ∧ Below V.heap.size V w') := fun V hV => Check_any c A cap V (by omega) (hR.out hV)
  obtain ⟨ck, hck⟩ : ∃ ck, ck = checkE c := ⟨_, rfl⟩
  rw [← hck] at HCK
  have HC := Lib.hid hck
  obtain ⟨S, hS⟩ : ∃ S, S = showS c := ⟨_, rfl⟩
  rw [← hS]
  have HS := Lib.hid hS
  have HR := Lib.hid hR
  clear hck hS hR
  obtain ⟨n, hn⟩ : ∃ n, n = c.we.length := ⟨_, rfl⟩
  rw [← hn] at hl HR
  have e0 : c.v A cap = cfv c.so c.ro c.ol A n cap c.qu c.ti c.pa := by rw [hn]
  rw [e0] at HCK ⊢
  have HN := Lib.hid hn
  clear e0 hn
  by_cases hck : ck = 0
  · subst hck
    have HSS : Hid (S = linesTo c 7) := by show S = _; rw [HS.out, showS, if_pos HC.out.symm]
    obtain ⟨h1, h2, h3⟩ := check_zero HC.out.symm
    have HALL := Lib.hid h2
    have HLEN := Lib.hid h3
    have hf := h1
    simp only [fieldsOk, Bool.and_eq_true, decide_eq_true_eq] at hf
    clear h1 h2 h3
    go_enter Tryd.func16, Tryd.ntmps16
    go_wp2_with fail
    refine (HCK.out _ (by repeat (first | (with_reducible assumption) | (with_reducible exact Below.refl _ _) | (with_reducible refine Below.drewN ?_ _) | (with_reducible refine Below.drew ?_) | (with_reducible refine Below.setCell ?_ (by first | omega | (simp; done) | (simp; omega) | (simp [World.setCell]; done) | (simp [World.setCell]; omega)) _) | (with_reducible refine Below.alloc ?_ (by first | omega | (simp; done) | (simp; omega) | (simp [World.setCell]; done) | (simp [World.setCell]; omega)) _)))).mono ?_
    rintro e w2 ⟨rfl, hb2⟩
    have q0 := (hb2.block w.heap.size (by simp)).trans (heap_alloc_new w _)
    have hs2 : w.heap.size + 1 ≤ w2.heap.size := by simpa using hb2.size
    have hbw2 : Below w.heap.size w w2 := Below.trans ((Below.refl _ _).alloc (Nat.le_refl _) _) (hb2.mono (by simp))
    clear hb2
    go_wp2_with fail
    obtain ⟨so, ro, ol, we, qu, ti, pa⟩ := c
    simp only at hf ht hp
    have I2 : Hid (ShR w #[.int .i64 so, .int .i64 ro, .bool ol, .slice A n cap, .int .i64 qu, .int .i64 ti, .int .i64 pa] w2) := ⟨hbw2, q0⟩
    have g0 : w2.cell? ⟨w.heap.size, 0, none⟩ = some (.int .i64 so) := I2.out.cell 0
    have g1 : w2.cell? ⟨w.heap.size, 1, none⟩ = some (.int .i64 ro) := I2.out.cell 1
    have b0 : 0 ≤ so := by omega
    have b1 : so ≤ 9223372036854775807 := by omega
    have b2 : 0 ≤ ro := by omega
    have b3 : ro ≤ 9223372036854775807 := by omega
    obtain ⟨d0, D0, z0⟩ := dig_of so b0 b1
    obtain ⟨d1, D1, z1⟩ := dig_of ro b2 b3
    have zz0 := z0.out
    have zz1 := z1.out
    obtain ⟨s1, S1, p1⟩ := cat_of (a := ⟨#[115, 111, 117, 114, 99, 101, 115, 32]⟩) (la := [115, 111, 117, 114, 99, 101, 115, 32]) rfl D0 (by simp; omega)
    obtain ⟨s2, S2, p2⟩ := cat_of (b := ⟨#[10]⟩) (lb := [10]) S1 rfl (by simp; omega)
    obtain ⟨s3, S3, p3⟩ := cat_of (b := ⟨#[114, 111, 111, 109, 32]⟩) (lb := [114, 111, 111, 109, 32]) S2 rfl (by simp; omega)
    obtain ⟨s4, S4, p4⟩ := cat_of S3 D1 (by simp; omega)
    obtain ⟨s5, S5, p5⟩ := cat_of (b := ⟨#[10]⟩) (lb := [10]) S4 rfl (by simp; omega)
    clear zz0 zz1
    have I2d : Hid (ShR w #[.int .i64 so, .int .i64 ro, .bool ol, .slice A n cap, .int .i64 qu, .int .i64 ti, .int .i64 pa] w2.drew) := I2.out.drew
    go_region_held3 (fun w' => w'.cell? ⟨w.heap.size, 0, none⟩ = some (.int .i64 so) ∧ w'.cell? ⟨w.heap.size, 1, none⟩ = some (.int .i64 ro)) (first | exact ⟨g0, g1⟩ | exact ⟨k3 0, k3 1⟩ | exact ⟨k4 0, k4 1⟩)
      (first
        | (go_at_call 17; ((with_reducible refine (Dig_at (w := w) I2d so b0 b1 d0 D0).mono ?_); rintro e w3 ⟨rfl, I3, k3⟩))
        | (go_at_call 17; refine (Dig_at (w := w) I3 ro b2 b3 d1 D1).mono ?_; rintro e w4 ⟨rfl, I4, k4⟩))
    have f4 := k4
    clear k3 k4 p1 p2 p3 p4 p5 g0 g1
    obtain ⟨s6, S6, p6t, p6f⟩ : ∃ s6 : ByteArray, Hid (s6 = bs (headL so ro ++ polL ol)) ∧ (ol = true → ∀ t, binOp .add t (.string s5) (.string ⟨#[112, 111, 108, 105, 99, 121, 32, 111, 108, 100, 101, 115, 116, 10, 119, 101, 105, 103, 104, 116, 115]⟩) = pure (.string s6)) ∧ (ol = false → ∀ t, binOp .add t (.string s5) (.string ⟨#[112, 111, 108, 105, 99, 121, 32, 116, 97, 105, 108, 10, 119, 101, 105, 103, 104, 116, 115]⟩) = pure (.string s6)) := by
      have e1 := z0.out
      have e2 := z1.out
      cases ol
      · obtain ⟨s6, h1, h2⟩ := cat_of (b := ⟨#[112, 111, 108, 105, 99, 121, 32, 116, 97, 105, 108, 10, 119, 101, 105, 103, 104, 116, 115]⟩) (lb := polL false) S5 rfl (by simp [polL]; omega)
        exact ⟨s6, h1, fun h => (by cases h), fun _ => h2⟩
      · obtain ⟨s6, h1, h2⟩ := cat_of (b := ⟨#[112, 111, 108, 105, 99, 121, 32, 111, 108, 100, 101, 115, 116, 10, 119, 101, 105, 103, 104, 116, 115]⟩) (lb := polL true) S5 rfl (by simp [polL]; omega)
        exact ⟨s6, h1, fun _ => h2, fun h => (by cases h)⟩
    have HPL : Hid ((headL so ro ++ polL ol).length ≤ 200) := by
      have e1 := z0.out
      have e2 := z1.out
      show _ ≤ _
      cases ol <;> simp [headL, polL] <;> omega
    have HEND := Lib.hid (show_eq so ro ol we qu ti pa)
    obtain ⟨P, hP⟩ : ∃ P, P = headL so ro ++ polL ol := ⟨_, rfl⟩
    rw [← hP] at S6 HPL HEND
    have HNL : Hid (∀ k, (numsOf 3 (we.take k)).length ≤ 22000) := fun k => by
      have h1 : (we.take k).length ≤ 1000 := by have := List.length_take (i := k) (l := we); have := HN.out; omega
      have := nums_len (k := 3) (l := we.take k) fun x hx => by
        have := List.all_eq_true.1 HALL.out x (List.mem_of_mem_take hx)
        simp [wOk] at this; omega
      omega
    have b4 : 0 ≤ qu := by omega
    have b5 : qu ≤ 9223372036854775807 := by omega
    have b6 : 0 ≤ ti := by omega
    have b8 : 0 ≤ pa := by omega
    have HALL' : Hid (∀ k, (hk : k < we.length) → 0 ≤ we[k] ∧ we[k] ≤ 9223372036854775807) := fun k hk => by
      have := List.all_eq_true.1 HALL.out _ (List.getElem_mem hk)
      simp [wOk] at this; omega
    clear hP hf I2 I2d I3 HALL b0 b1 b2 b3 hs2 hbw2 q0
    cases ol
    all_goals
      first
      | have p6 := p6f rfl
      | have p6 := p6t rfl
      clear p6t p6f
      go_wp2
      clear p6
      go_loopw [3, 4] (fun s i wr => ∃ (k : Nat) (sk : ByteArray), k ≤ n ∧ i = .int .i64 k ∧ s = .string sk ∧ Hid (sk = bs (P ++ numsOf 3 (we.take k))) ∧ Hid (ShR w #[.int .i64 so, .int .i64 ro, .bool _, .slice A n cap, .int .i64 qu, .int .i64 ti, .int .i64 pa] wr)) (fun _ i _ => n - (intOf i).toNat)
      case atStart => exact ⟨0, s6, Nat.zero_le _, rfl, rfl, by show _ = _; rw [S6.out]; simp [numsOf], I4⟩
      case round =>
        obtain ⟨k, sk, hk, rfl, rfl, SK, I⟩ := hrel
        clear I4 f4 S1 S2 S3 S4 S5 S6 D0 D1
        have f0 := I.out.cell
        have hB := I.out.lt
        have zk := HNL.out k
        have zP := HPL.out
        by_cases hlt : k < n
        · have hx : k < we.length := by rw [← HN.out]; exact hlt
          obtain ⟨ad, rfl, hab, hac⟩ := HR.out.2 (by omega)
          have hx0 := HALL'.out k hx
          have HST := Lib.hid (List.take_succ_eq_append_getElem hx)
          have g1 : wr.cell? (ad.add k) = some (.int .i64 we[k]) := by
            rw [I.out.below.cell (by rw [block_of_add]; exact hab)]; exact hac k _ (intsV_get hx)
          generalize we[k] = x at g1 hx0 HST
          obtain ⟨x0, x1⟩ := hx0
          obtain ⟨d, D, zd⟩ := dig_of x x0 x1
          have zd' := zd.out
          obtain ⟨t1, T1, r1⟩ := cat_of (a := ⟨#[32]⟩) (la := [32]) rfl D (by simp; omega)
          obtain ⟨t2, T2, r2⟩ := cat_of SK T1 (by simp; omega)
          clear zd' zP zk hac
          go_wp2_with fail
          refine (Dig_at (w := w) I x x0 x1 d D).mono ?_
          rintro e w5 ⟨rfl, I5, k5⟩
          clear f0 g1
          go_wp2
          go_roundw
          case rel => exact ⟨k + 1, t2, by omega, by go_num, rfl, by show _ = _; rw [T2.out, HST.out, numsOf_snoc]; simp [wordOf], I5⟩
          case measure => simp [intOf]; omega
        · have e3 : we.take k = we := List.take_of_length_le (by rw [← HN.out]; omega)
          rw [e3] at SK zk
          clear e3
          obtain ⟨d4, D4, y4⟩ := dig_of qu b4 b5
          obtain ⟨d5, D5, y5⟩ := dig_of ti b6 ht
          obtain ⟨d6, D6, y6⟩ := dig_of pa b8 hp
          have v4 := y4.out
          have v5 := y5.out
          have v6 := y6.out
          obtain ⟨t1, T1, r1⟩ := cat_of (b := ⟨#[10, 113, 117, 97, 110, 116, 117, 109, 32]⟩) (lb := [10, 113, 117, 97, 110, 116, 117, 109, 32]) SK rfl (by simp; omega)
          obtain ⟨t2, T2, r2⟩ := cat_of T1 D4 (by simp; omega)
          obtain ⟨t3, T3, r3⟩ := cat_of (b := ⟨#[10, 116, 105, 109, 101, 111, 117, 116, 32]⟩) (lb := [10, 116, 105, 109, 101, 111, 117, 116, 32]) T2 rfl (by simp; omega)
          obtain ⟨t4, T4, r4⟩ := cat_of T3 D5 (by simp; omega)
          obtain ⟨t5, T5, r5⟩ := cat_of (b := ⟨#[10, 112, 97, 116, 105, 101, 110, 99, 101, 32]⟩) (lb := [10, 112, 97, 116, 105, 101, 110, 99, 101, 32]) T4 rfl (by simp; omega)
          obtain ⟨t6, T6, r6⟩ := cat_of T5 D6 (by simp; omega)
          obtain ⟨t7, T7, r7⟩ := cat_of (b := ⟨#[10]⟩) (lb := [10]) T6 rfl (by simp; omega)
          have HFIN : Hid (t7 = bs S) := by show _ = _; rw [T7.out, HSS.out, ← HEND.out]
          have h4 := f0 4
          have h5 := f0 5
          have h6 := f0 6
          simp only [List.getElem?_toArray, List.getElem?_cons_succ, List.getElem?_cons_zero] at h4 h5 h6
          have Id : Hid (ShR w #[.int .i64 so, .int .i64 ro, .bool _, .slice A n cap, .int .i64 qu, .int .i64 ti, .int .i64 pa] wr.drew) := I.out.drew
          clear v4 v5 v6 y4 y5 y6 zk zP T1 T2 T3 T4 T5 T6 T7 SK
          go_wp2_with fail
          go_region_held3 (fun w' => w'.cell? ⟨w.heap.size, 4, none⟩ = some (.int .i64 qu) ∧ w'.cell? ⟨w.heap.size, 5, none⟩ = some (.int .i64 ti) ∧ w'.cell? ⟨w.heap.size, 6, none⟩ = some (.int .i64 pa)) (first | exact ⟨h4, h5, h6⟩ | exact ⟨k5 4, k5 5, k5 6⟩ | exact ⟨k6 4, k6 5, k6 6⟩ | exact ⟨k7 4, k7 5, k7 6⟩)
            (first
              | (go_at_call 17; ((with_reducible refine (Dig_at (w := w) Id qu b4 b5 d4 D4).mono ?_); rintro e w5 ⟨rfl, I5, k5⟩))
              | (go_at_call 17; ((with_reducible refine (Dig_at (w := w) I5 ti b6 ht d5 D5).mono ?_); rintro e w6 ⟨rfl, I6, k6⟩))
              | (go_at_call 17; ((with_reducible refine (Dig_at (w := w) I6 pa b8 hp d6 D6).mono ?_); rintro e w7 ⟨rfl, I7, k7⟩)))
          go_wp2
          go_ret
          exact ⟨ret_str HFIN.out, I7.out.below⟩
  · have hck1 : (ck != 0) = true := by simp [hck]
    have HSS : Hid (S = []) := by show S = _; rw [HS.out, showS, if_neg (by rw [← HC.out]; exact hck)]
    clear hck
    go_enter Tryd.func16, Tryd.ntmps16
    go_wp2_with fail
    refine (HCK.out _ (by repeat (first | (with_reducible assumption) | (with_reducible exact Below.refl _ _) | (with_reducible refine Below.drewN ?_ _) | (with_reducible refine Below.drew ?_) | (with_reducible refine Below.setCell ?_ (by first | omega | (simp; done) | (simp; omega) | (simp [World.setCell]; done) | (simp [World.setCell]; omega)) _) | (with_reducible refine Below.alloc ?_ (by first | omega | (simp; done) | (simp; omega) | (simp [World.setCell]; done) | (simp [World.setCell]; omega)) _)))).mono ?_
    rintro e w2 ⟨rfl, hb2⟩
    have hbw2 : Below w.heap.size w w2 := Below.trans ((Below.refl _ _).alloc (Nat.le_refl _) _) (hb2.mono (by simp))
    clear hb2
    go_wp2
    go_ret
    exact ⟨ret_str (by rw [HSS.out]), hbw2⟩
end Go.Proofs.YtmmmepmjmofbjaaDoor
