/- conf.Show = showS. -/
import Derived.Test.YtmmmepmjmofbjaaDoorProg
import Derived.Test.YtmmmepmjmofbjaaDoorInf
import Derived.Test.YtmmmepmjmofbjaaDoorBuilder
import Derived.Test.YtmmmepmjmofbjaaDoorShelf
import Derived.Test.YtmmmepmjmofbjaaDoorConfJ
import Derived.Test.YtmmmepmjmofbjaaDoorConfR
import Derived.Test.YtmmmepmjmofbjaaDoorConfN
import Derived.Test.YtmmmepmjmofbjaaDoorConfV
import Derived.Laws.EntriesVeiled
import Derived.Lib.AppendIntMem
set_option linter.unusedVariables false
namespace Go.Proofs.YtmmmepmjmofbjaaDoor
open Go Go.RowKit

/-- the builder at hand holds these bytes -/
abbrev BAt (B b : Nat) (l : List UInt8) (w : World) : Prop := Lib.IsBuilderF 67 5 B b (Lib.byteCells l) w
abbrev Kept8 (b : Nat) (w w' : World) : Prop := Lib.OthersKept 5 (some b) w w'
theorem ownsRowF_blk {w w' : World} {base : Nat} {e : TypeId} {size : Nat} {v : Value} {n : Nat} {xs : List Value} (h : w.ownsRowF base e size v n xs) (hk : ∀ k, k < w.heap.size → w'.heap[k]? = w.heap[k]?) : w'.ownsRowF base e size v n xs :=
  ⟨h.1, h.2.imp id fun ⟨g, cap, cur, fz, h1, h2, h3, h4⟩ => ⟨g, cap, cur, fz, h1, h2, (hk g (Array.getElem?_eq_some_iff.1 h3).1).trans h3, h4⟩⟩
theorem BAt.keep {B b : Nat} {l : List UInt8} {w w' : World} (h : BAt B b l w) (hk : ∀ k, k < w.heap.size → w'.heap[k]? = w.heap[k]?) : BAt B b l w' := by
  have aux : ∀ p, Lib.BuilderAtF 67 5 B b p (Lib.byteCells l) w → Lib.BuilderAtF 67 5 B b p (Lib.byteCells l) w' := by
    rintro p ⟨hB, v, hb, hown, hne⟩
    exact ⟨hB, v, (hk b (Array.getElem?_eq_some_iff.1 hb).1).trans hb, ownsRowF_blk hown hk, hne⟩
  exact h.imp (aux _) (aux _)
theorem kept_of_below {b : Nat} {w w' : World} (h : Below w.heap.size w w') : Kept8 b w w' := fun k o ho _ _ => (h.block k (Array.getElem?_eq_some_iff.1 ho).1).trans ho
theorem WB_any (B b : Nat) (l : List UInt8) (c : UInt8) (w : World) (h : BAt B b l w) (hl : l.length ≤ 1000000) (hB : B ≤ w.heap.size) :
    Calls Tryd.prog 29 #[.pointer (some ⟨b, 0, none⟩), .int .u8 c.toNat] w fun e w' => e = .returned .nilIface ∧ BAt B b (l ++ [c]) w' ∧ Below B w w' ∧ Kept8 b w w' := by
  refine (WriteByte_k B b _ c.toNat w h (by simp [Lib.byteCells]; omega) hB).mono ?_
  rintro e w' ⟨rfl, h1, h2, h3⟩
  refine ⟨rfl, .inr ?_, h2, h3⟩
  have : Lib.byteCells (l ++ [c]) = Lib.byteCells l ++ [.int .u8 c.toNat] := by simp [Lib.byteCells]
  rw [this]; exact h1
theorem WS_any (B b : Nat) (l x : List UInt8) (w : World) (h : BAt B b l w) (hl : l.length + x.length ≤ 1000000) (hB : B ≤ w.heap.size) :
    Calls Tryd.prog 28 #[.pointer (some ⟨b, 0, none⟩), .string (bs x)] w fun e w' => (∃ v, e = .returned v) ∧ BAt B b (l ++ x) w' ∧ Below B w w' ∧ Kept8 b w w' := by
  refine (WriteString_k B b _ (bs x) w h (by rw [bs_size]; simp [Lib.byteCells]; omega) hB).mono ?_
  rintro e w' ⟨rfl, h1, h2, h3⟩
  refine ⟨⟨_, rfl⟩, .inr ?_, h2, h3⟩
  have : Lib.byteCells (l ++ x) = Lib.byteCells l ++ Lib.strCells (bs x) := by simp [Lib.byteCells, Lib.strCells]
  rw [this]; exact h1

theorem FI_any (x : Int) (w : World) (hE : Env w) (h0 : 0 ≤ x) (h1 : x ≤ 9223372036854775807) :
    Calls Tryd.prog 31 #[.int .i64 x, .int .i64 10] w fun e w' => e = .returned (.string (bs (Lib.itoa x))) ∧ Below w.heap.size w w' := by
  refine (Tryd.strconv_FormatInt_10 x (by omega) h1 w hE.pow).mono ?_
  rintro e w' ⟨rfl, k, os, rfl⟩
  exact ⟨rfl, Lib.below_grow _ _ (Nat.le_refl _) _ _⟩
theorem BS_any (B b : Nat) (l : List UInt8) (w : World) (h : BAt B b l w) (hB : B ≤ w.heap.size) :
    Calls Tryd.prog 32 #[.pointer (some ⟨b, 0, none⟩)] w fun e w' => e = .returned (.string (bs l)) ∧ Below B w w' := by
  refine (Tryd.Builder_String_any_k B b l w h hB).mono ?_
  rintro e w' ⟨rfl, _, h2, _⟩
  exact ⟨rfl, h2⟩
/-- a word of a policy, as policies has it -/
theorem pol_word {x : Int} (h : x = 0 ∨ x = 1) : ∃ j : Nat, x = j ∧ j < 2 ∧ [bs [116, 97, 105, 108], bs [111, 108, 100, 101, 115, 116]].getD j ByteArray.empty = bs (wordOf 2 x) := by
  rcases h with rfl | rfl
  · exact ⟨0, rfl, by decide, rfl⟩
  · exact ⟨1, rfl, by decide, rfl⟩
theorem pol_len (x : Int) : (wordOf 2 x).length ≤ 6 := by unfold wordOf; rw [if_pos rfl]; split <;> decide
theorem nums0 (a : List UInt8) (k : Nat) (T : List Int) : a ++ numsOf k (T.take 0) = a := by simp [numsOf]
theorem tell_two (c : Cf) : ∀ x ∈ tellL c 2, x = 0 ∨ x = 1 := by
  intro x hx
  simp only [tellL, List.mem_singleton] at hx
  subst hx
  cases c.ol <;> simp
/-- what the rounds of Show keep: the builder, the settings, a setting's own copy, what is told -/
structure ShIn (b : Nat) (l : List UInt8) (row : Array Value) (sb : Nat) (A : Option Addr) (w4 w2 w : World) : Prop where
  bld : BAt b b l w
  set : w.heap[b + 1]? = some (.cells setCells 62 (0, 0))
  row : w.heap[sb]? = some (.cells row 62 (0, 0))
  tell : ∀ ad, A = some ad → w.heap[ad.block]? = w4.heap[ad.block]?
  below : Below b w2 w
  hb : b ≤ w.heap.size
theorem BAt.ne {B b g : Nat} {l : List UInt8} {w : World} {cs : Array Value} (h : BAt B b l w) (hg : w.heap[g]? = some (.cells cs 2 (0, 0))) : g ≠ b := by
  have aux : ∀ p, Lib.BuilderAtF 67 5 B b p (Lib.byteCells l) w → g ≠ b := by
    rintro p ⟨_, v, hb, _, _⟩ rfl
    rw [hb] at hg
    injection hg with hg
    injection hg with _ h2 _
    exact absurd h2 (by decide)
  exact h.elim (aux _) (aux _)
theorem set_ne8 {cs c : Array Value} {fz f : Nat × Nat} : (Obj.cells cs 62 fz) ≠ .cells c 5 f := by
  intro h; injection h with _ h2 _; exact absurd h2 (by decide)
theorem i64_ne8 {cs c : Array Value} {fz f : Nat × Nat} : (Obj.cells cs 2 fz) ≠ .cells c 5 f := by
  intro h; injection h with _ h2 _; exact absurd h2 (by decide)
theorem ShIn.next {b : Nat} {l l' : List UInt8} {row : Array Value} {sb : Nat} {A : Option Addr} {w4 w2 w w' : World} (h : ShIn b l row sb A w4 w2 w) (hb : BAt b b l' w') (hbel : Below b w w') (hk : Kept8 b w w') (hsb : sb ≠ b)
    (ht : ∀ ad, A = some ad → ad.block ≠ b ∧ ∃ cs, w4.heap[ad.block]? = some (.cells cs 2 (0, 0))) : ShIn b l' row sb A w4 w2 w' :=
  ⟨hb, hk _ _ h.set (by simp) (fun _ _ => set_ne8), hk _ _ h.row (by simpa using hsb) (fun _ _ => set_ne8), fun ad hd => by
    obtain ⟨hne, cs, hc⟩ := ht ad hd
    exact (hk _ _ ((h.tell ad hd).trans hc) (by simpa using hne) (fun _ _ => i64_ne8)).trans hc.symm, h.below.trans hbel, Nat.le_trans h.hb hbel.size⟩
theorem ShIn.out {b : Nat} {l : List UInt8} {row : Array Value} {sb : Nat} {A : Option Addr} {w4 w2 w w' : World} (h : ShIn b l row sb A w4 w2 w) (hbel : Below w.heap.size w w') (hsb : sb ≠ b)
    (ht : ∀ ad, A = some ad → ad.block ≠ b ∧ ∃ cs, w4.heap[ad.block]? = some (.cells cs 2 (0, 0))) : ShIn b l row sb A w4 w2 w' :=
  h.next (h.bld.keep fun k hk => hbel.block k hk) (hbel.mono h.hb) (kept_of_below hbel) hsb ht
theorem WB32 (B b : Nat) (l : List UInt8) (w : World) (h : BAt B b l w) (hl : l.length ≤ 1000000) (hB : B ≤ w.heap.size) :
    Calls Tryd.prog 29 #[.pointer (some ⟨b, 0, none⟩), .int .u8 32] w fun e w' => e = .returned .nilIface ∧ BAt B b (l ++ [32]) w' ∧ Below B w w' ∧ Kept8 b w w' := WB_any B b l 32 w h hl hB
theorem WB10 (B b : Nat) (l : List UInt8) (w : World) (h : BAt B b l w) (hl : l.length ≤ 1000000) (hB : B ≤ w.heap.size) :
    Calls Tryd.prog 29 #[.pointer (some ⟨b, 0, none⟩), .int .u8 10] w fun e w' => e = .returned .nilIface ∧ BAt B b (l ++ [10]) w' ∧ Below B w w' ∧ Kept8 b w w' := WB_any B b l 10 w h hl hB
theorem tell_len {c : Cf} (hl : c.we.length ≤ 1000) (k : Nat) (hk : k < 7) : (tellL c k).length ≤ 1000 := by
  have : k = 0 ∨ k = 1 ∨ k = 2 ∨ k = 3 ∨ k = 4 ∨ k = 5 ∨ k = 6 := by omega
  rcases this with rfl | rfl | rfl | rfl | rfl | rfl | rfl <;> first | exact hl | (simp [tellL])
/-- how long it is on the way -/
theorem len_in {c : Cf} (hl : c.we.length ≤ 1000) (hck : checkE c = 0) (ht : c.ti ≤ 9223372036854775807) (hp : c.pa ≤ 9223372036854775807) (k : Nat) (hk : k < 7) (q : Nat) :
    (linesTo c k ++ words7.getD k [] ++ numsOf k ((tellL c k).take q)).length ≤ 600000 := by
  have hr := tell_rng hck ht hp
  have h1 := lines_len hl hr k (by omega)
  have h2 := nums_len (k := k) (l := (tellL c k).take q) (fun x hx => hr k hk x (List.mem_of_mem_take hx))
  have h3 : (tellL c k).length ≤ 1000 := by
    have : k = 0 ∨ k = 1 ∨ k = 2 ∨ k = 3 ∨ k = 4 ∨ k = 5 ∨ k = 6 := by omega
    rcases this with rfl | rfl | rfl | rfl | rfl | rfl | rfl <;> first | exact hl | (simp [tellL])
  have h4 : (words7.getD k []).length ≤ 10 := by
    have : k = 0 ∨ k = 1 ∨ k = 2 ∨ k = 3 ∨ k = 4 ∨ k = 5 ∨ k = 6 := by omega
    rcases this with rfl | rfl | rfl | rfl | rfl | rfl | rfl <;> decide
  have h5 : ((tellL c k).take q).length ≤ 1000 := by have := List.length_take_le q (tellL c k); have := List.length_take (i := q) (l := tellL c k); omega
  simp only [List.length_append]
  omega

set_option maxRecDepth 100000 in
set_option maxHeartbeats 6400000 in
theorem ConfShow_any (c : Cf) (A : Option Addr) (cap : Nat) (w : World) (hE : Env w) (hl : c.we.length ≤ 1000) (hR : Reads w w.heap.size 1 A c.we.length (intsV c.we)) (ht : c.ti ≤ 9223372036854775807) (hp : c.pa ≤ 9223372036854775807) :
    Calls Tryd.prog 15 #[c.v A cap] w fun e w' => e = .returned (.string (bs (showS c))) ∧ Below w.heap.size w w' := by
  have HCK : Hid (∀ V, Below w.heap.size w V → Calls Tryd.prog 13 #[c.v A cap] V fun e w' => e = .returned (.int .i64 (checkE c)) ∧ Below V.heap.size V w') := fun V hV => ConfCheck_any c A cap V (by omega) (hR.out hV) ht hp
  have HT : Hid (∀ (k : Nat) (V : World), k < 7 → Below w.heap.size w V → Calls Tryd.prog (tellF.getD k 0) #[c.v A cap] V (TellRet V (tellL c k))) := fun k V hk hV => tell_any k hk c A cap V (by omega) (hR.out hV)
  obtain ⟨ck, hck⟩ : ∃ ck, ck = checkE c := ⟨_, rfl⟩
  rw [← hck] at HCK
  have HC := Lib.hid hck
  clear hck hR
  obtain ⟨S, hS⟩ : ∃ S, S = showS c := ⟨_, rfl⟩
  rw [← hS]
  have HS := Lib.hid hS
  clear hS
  go_enter Tryd.func15, Tryd.ntmps15
  go_wp2_with fail
  refine (HCK.out _ (by repeat (first | (with_reducible assumption) | (with_reducible exact Below.refl _ _) | (with_reducible refine Below.drewN ?_ _) | (with_reducible refine Below.drew ?_) | (with_reducible refine Below.setCell ?_ (by first | omega | (simp; done) | (simp; omega) | (simp [World.setCell]; done) | (simp [World.setCell]; omega)) _) | (with_reducible refine Below.alloc ?_ (by first | omega | (simp; done) | (simp; omega) | (simp [World.setCell]; done) | (simp [World.setCell]; omega)) _)))).mono ?_
  rintro e w2 ⟨rfl, hb2⟩
  have q0 := (hb2.block w.heap.size (by simp)).trans (heap_alloc_new w _)
  have hs2 : w.heap.size + 1 ≤ w2.heap.size := by simpa using hb2.size
  have hbw2 : Below w.heap.size w w2 := Below.trans ((Below.refl _ _).alloc (Nat.le_refl _) _) (hb2.mono (by simp))
  clear hb2
  by_cases hck : ck = 0
  · subst hck
    have HSS : Hid (S = linesTo c 7) := by show S = _; rw [HS.out, showS, if_pos HC.out.symm]
    go_wp2_with (go_at_call 27; refine (settings_any _).mono ?_; rintro e w3 ⟨rfl, rfl⟩)
    obtain ⟨b, hb⟩ : ∃ b, b = w2.heap.size := ⟨_, rfl⟩
    have v0 : BAt b b [] ((w2.alloc (.cells #[.pointer none, .slice none 0 0] 67)).alloc (.cells setCells 62)) := by
      refine .inl ⟨Nat.le_refl _, .slice none 0 0, ?_, ⟨rfl, .inl ⟨rfl, rfl⟩⟩, by simp [Value.ownBlock]⟩
      rw [hb, Below.heap_alloc _ _ _ (by simp)]; exact heap_alloc_new w2 _
    have v1 : ((w2.alloc (.cells #[.pointer none, .slice none 0 0] 67)).alloc (.cells setCells 62)).heap[b + 1]? = some (.cells setCells 62 (0, 0)) := by
      have := heap_alloc_new (w2.alloc (.cells #[.pointer none, .slice none 0 0] 67)) (.cells setCells 62)
      rw [hb]; simpa using this
    have hbw3 : Below b w2 ((w2.alloc (.cells #[.pointer none, .slice none 0 0] 67)).alloc (.cells setCells 62)) := by rw [hb]; exact (by repeat (first | (with_reducible assumption) | (with_reducible exact Below.refl _ _) | (with_reducible refine Below.drewN ?_ _) | (with_reducible refine Below.drew ?_) | (with_reducible refine Below.setCell ?_ (by first | omega | (simp; done) | (simp; omega) | (simp [World.setCell]; done) | (simp [World.setCell]; omega)) _) | (with_reducible refine Below.alloc ?_ (by first | omega | (simp; done) | (simp; omega) | (simp [World.setCell]; done) | (simp [World.setCell]; omega)) _)))
    have hs3 : ((w2.alloc (.cells #[.pointer none, .slice none 0 0] 67)).alloc (.cells setCells 62)).heap.size = b + 2 := by rw [hb]; simp
    obtain ⟨w3, hw3⟩ : ∃ w3, w3 = ((w2.alloc (.cells #[.pointer none, .slice none 0 0] 67)).alloc (.cells setCells 62)) := ⟨_, rfl⟩
    rw [← hw3] at v0 v1 hbw3 hs3 ⊢
    clear hw3
    rw [← hb] at hs2 ⊢
    have HB0 := Lib.hid hb
    clear hb
    have HLB : Hid (∀ k q, k < 7 → (linesTo c k ++ words7.getD k [] ++ numsOf k ((tellL c k).take q)).length ≤ 600000) := fun k q hk => len_in hl HC.out.symm ht hp k hk q
    have HRNG : Hid (∀ k, k < 7 → ∀ x ∈ tellL c k, 0 ≤ x ∧ x ≤ 9223372036854775807) := tell_rng HC.out.symm ht hp
    have hE2 : Env w2 := hE.below hbw2 hE.size
    go_loopw [5, 7, 13] (fun _ _ i wr => ∃ k : Nat, k ≤ 7 ∧ i = .int .i64 k ∧ Hid (BAt b b (linesTo c k) wr) ∧ wr.heap[b + 1]? = some (.cells setCells 62 (0, 0)) ∧ Below b w2 wr) (fun _ _ i _ => 7 - (intOf i).toNat)
    case atStart => exact ⟨0, by omega, rfl, v0, v1, hbw3⟩
    case round =>
      obtain ⟨wo, rfl⟩ : ∃ wo : World, wo = wr := ⟨_, rfl⟩
      obtain ⟨k, hk, rfl, hBA, hset, hbl⟩ := hrel
      clear v0 v1 hbw3
      have hs1 : b + 1 < wo.heap.size := (Array.getElem?_eq_some_iff.1 hset).1
      have hbwo : Below w.heap.size w wo := hbw2.trans (hbl.mono (by omega))
      have q1 := (hbl.block w.heap.size (by omega)).trans q0
      have f0 := fun i => cell_of_row wo w.heap.size i _ _ _ q1
      by_cases hlt : k < 7
      · obtain ⟨l0, l1, l2, l3, l4⟩ := set_five hset hlt (setRow_eq k)
        have hent := tell_enters k hlt
        have HTK := Lib.hid (fun V (hV : Below w.heap.size w V) => HT.out k V hlt hV)
        have hpo := pol_lit k hlt
        obtain ⟨y7, hy7⟩ : ∃ y7, y7 = words7.getD k [] := ⟨_, rfl⟩
        obtain ⟨tf, htf⟩ : ∃ tf, tf = tellF.getD k 0 := ⟨_, rfl⟩
        obtain ⟨T, hT⟩ : ∃ T, T = tellL c k := ⟨_, rfl⟩
        obtain ⟨LN, hLN⟩ : ∃ LN, LN = linesTo c k := ⟨_, rfl⟩
        have HLN : Hid (∀ q, (LN ++ y7 ++ numsOf k (T.take q)).length ≤ 600000) := by rw [hLN, hy7, hT]; exact fun q => HLB.out k q hlt
        have HRT : Hid (∀ x ∈ T, 0 ≤ x ∧ x ≤ 9223372036854775807) := by rw [hT]; exact HRNG.out k hlt
        have HPT : Hid (k = 2 → ∀ x ∈ T, x = 0 ∨ x = 1) := by show k = 2 → _; intro h2; rw [hT, h2]; exact tell_two c
        have HTLN : Hid (T.length ≤ 1000) := by rw [hT]; exact tell_len hl k hlt
        have HSU : Hid (linesTo c (k + 1) = LN ++ y7 ++ numsOf k T ++ [10]) := by rw [hLN, hy7, hT]; show _ = _; rw [linesTo_succ]; simp [lineOf]
        rw [← hy7] at l0 hpo
        rw [← htf] at l4 hent HTK
        rw [← hT] at HTK
        rw [← hLN] at hBA
        generalize setLo.getD k 0 = lo at l1
        generalize setHi.getD k 0 = hi at l2
        generalize takeF.getD k 0 = tk at l3
        clear hy7 htf hT hLN
        go_wp2_with fail
        have r0 := heap_alloc_new wo (.cells #[.string (bs y7), .int .i64 lo, .int .i64 hi, .func (.func tk) #[] #[], .func (.func tf) #[] #[]] 62)
        have i0 : ShIn b LN #[.string (bs y7), .int .i64 lo, .int .i64 hi, .func (.func tk) #[] #[], .func (.func tf) #[] #[]] wo.heap.size none wo w2 (wo.alloc (.cells #[.string (bs y7), .int .i64 lo, .int .i64 hi, .func (.func tk) #[] #[], .func (.func tf) #[] #[]] 62)) :=
          ⟨hBA.out.keep fun k hk => Below.heap_alloc _ _ _ hk, (Below.heap_alloc _ _ _ hs1).trans hset, r0, (fun _ h => by cases h), hbl.trans ((Below.refl _ _).alloc (by omega) _), by simp; omega⟩
        obtain ⟨x3, hx3⟩ : ∃ x3, x3 = wo.alloc (.cells #[.string (bs y7), .int .i64 lo, .int .i64 hi, .func (.func tk) #[] #[], .func (.func tf) #[] #[]] 62) := ⟨_, rfl⟩
        rw [← hx3] at i0 ⊢
        obtain ⟨sb, hsb⟩ : ∃ sb, sb = wo.heap.size := ⟨_, rfl⟩
        rw [← hsb] at i0 ⊢
        have hsbb : sb ≠ b := by omega
        have hL0 := HLN.out 0
        simp only [List.length_append] at hL0
        have HX3 := Lib.hid hx3
        have HSB := Lib.hid hsb
        have I0 := Lib.hid i0
        clear hx3 hsb i0 r0 f0 l0 l1 l2 l3 l4 q1
        refine (WS_any b b LN y7 x3 I0.out.bld (by omega) I0.out.hb).mono ?_
        rintro e x4 ⟨⟨v4, rfl⟩, hb4, hbe4, hk4⟩
        have I4 := Lib.hid (I0.out.next hb4 hbe4 hk4 hsbb (fun _ h => by cases h))
        clear hb4 hbe4 hk4
        have hbw4 : Below w.heap.size w x4 := hbw2.trans (I4.out.below.mono (by omega))
        have p0 := (I4.out.below.block w.heap.size (by omega)).trans q0
        have f0 := fun i => cell_of_row x4 w.heap.size i _ _ _ p0
        have l0 := fun i => cell_of_row x4 sb i _ _ _ I4.out.row
        go_wp2_with (go_at_fn tf; refine (HTK.out _ hbw4).mono ?_)
        rintro e x5 ⟨A5, c5, rfl, hr5, hb5, hc5⟩
        have htl : ∀ ad, A5 = some ad → ad.block ≠ b ∧ ∃ cs, x5.heap[ad.block]? = some (.cells cs 2 (0, 0)) := fun ad hd => by
          obtain ⟨cs, h⟩ := hc5 ad hd
          exact ⟨BAt.ne (I4.out.bld.keep fun k hk => hb5.block k hk) h, cs, h⟩
        have i5 : ShIn b (LN ++ y7) #[.string (bs y7), .int .i64 lo, .int .i64 hi, .func (.func tk) #[] #[], .func (.func tf) #[] #[]] sb A5 x5 w2 x5 := by
          have h := I4.out.out hb5 hsbb (fun _ h => by cases h)
          exact ⟨h.bld, h.set, h.row, fun _ _ => rfl, h.below, h.hb⟩
        have HTL := Lib.hid htl
        have I5 := Lib.hid i5
        have hbw5 : Below w.heap.size w x5 := hbw4.trans (hb5.mono hbw4.size)
        have hr6 := hr5.2
        obtain ⟨nt, hnt⟩ : ∃ nt, nt = T.length := ⟨_, rfl⟩
        have hlt1 : nt ≤ 1000 := by rw [hnt]; exact HTLN.out
        rw [← hnt] at hr6 ⊢
        have HNT := Lib.hid hnt
        clear htl i5 hnt hr5 hb5 hc5 f0 l0 p0 hent
        go_wp2
        go_loopw [7, 25] (fun _ i wr => ∃ q : Nat, q ≤ nt ∧ i = .int .i64 q ∧ Hid (ShIn b (LN ++ y7 ++ numsOf k (T.take q)) #[.string (bs y7), .int .i64 lo, .int .i64 hi, .func (.func tk) #[] #[], .func (.func tf) #[] #[]] sb A5 x5 w2 wr)) (fun _ i _ => nt - (intOf i).toNat)
        case atStart => exact ⟨0, Nat.zero_le _, rfl, (nums0 _ _ _).symm ▸ I5⟩
        case round =>
          obtain ⟨wi, rfl⟩ : ∃ wi : World, wi = wr := ⟨_, rfl⟩
          obtain ⟨q, hq, rfl, I6⟩ := hrel
          have hbw6 : Below w.heap.size w wi := hbw2.trans (I6.out.below.mono (by omega))
          have hE6 : Env wi := hE.below hbw6 hE.size
          have hL6 := HLN.out q
          by_cases hltq : q < nt
          · have hx : q < T.length := by rw [← HNT.out]; exact hltq
            obtain ⟨ad, rfl, hab, hac⟩ := hr6 (by omega)
            obtain ⟨y, hy⟩ : ∃ y, y = T[q] := ⟨_, rfl⟩
            have g1 : wi.cell? (ad.add q) = some (.int .i64 y) := by
              rw [hy]; exact (World.cell?_of_block (by rw [block_of_add]; exact I6.out.tell ad rfl)).trans (hac q _ (intsV_get hx))
            have HS := Lib.hid (show T.take (q + 1) = T.take q ++ [y] by rw [hy]; exact List.take_succ_eq_append_getElem hx)
            have hyr := HRT.out y (by rw [hy]; exact List.getElem_mem hx)
            have HYP := Lib.hid (fun h2 => HPT.out h2 y (by rw [hy]; exact List.getElem_mem hx))
            clear hac hy hr6
            go_wp2_with fail
            refine (WB32 b b _ wi I6.out.bld (by omega) I6.out.hb).mono ?_
            rintro e x7 ⟨rfl, hb7, hbe7, hk7⟩
            have I7 := Lib.hid (I6.out.next hb7 hbe7 hk7 hsbb HTL.out)
            clear hb7 hbe7 hk7
            have l0 := fun i => cell_of_row x7 sb i _ _ _ I7.out.row
            have hbw7 : Below w.heap.size w x7 := hbw2.trans (I7.out.below.mono (by omega))
            have hE7 : Env x7 := hE.below hbw7 hE.size
            have hL7 : (LN ++ y7 ++ numsOf k (List.take q T) ++ [32]).length ≤ 600001 := by rw [List.length_append]; simp only [List.length_cons, List.length_nil]; omega
            have HEQ : Hid (∀ x, x = wordOf k y → LN ++ y7 ++ numsOf k (List.take q T) ++ [32] ++ x = LN ++ y7 ++ numsOf k (T.take (q + 1))) := by
              rintro x rfl
              rw [HS.out, numsOf_snoc]; simp
            by_cases hk2 : k = 2
            · have hp : (y7 == [112, 111, 108, 105, 99, 121]) = true := by rw [hpo]; simp [hk2]
              obtain ⟨j, rfl, hj, hw⟩ := pol_word (HYP.out hk2)
              have HW := Lib.hid hw
              have HEQ2 : Hid (∀ x, x = wordOf 2 (j : Int) → LN ++ y7 ++ numsOf k (List.take q T) ++ [32] ++ x = LN ++ y7 ++ numsOf k (T.take (q + 1))) := by rw [← hk2]; exact HEQ.out
              clear hpo hw HEQ hk2 hyr
              go_wp2_with fail
              refine (policiesB_any _).mono ?_
              rintro e x8 ⟨rfl, hp8, hb8⟩
              have I8 := Lib.hid (I7.out.out hb8 hsbb HTL.out)
              have g2 : x8.cell? ⟨x7.heap.size, j, none⟩ = some (.string (bs (wordOf 2 (j : Int)))) := by
                have := pol_cells hp8 j (by simpa using hj)
                rw [HW.out] at this; simpa using this
              clear hp8 l0 g1
              go_wp2_with fail
              refine (WS_any b b _ _ x8 I8.out.bld (by have := pol_len (j : Int); omega) I8.out.hb).mono ?_
              rintro e x9 ⟨⟨v9, rfl⟩, hb9, hbe9, hk9⟩
              have I9 := Lib.hid (I8.out.next hb9 hbe9 hk9 hsbb HTL.out)
              rw [HEQ2.out _ rfl] at I9
              clear hb9 hbe9 hk9 g2
              go_wp2
              go_roundw
              case rel => exact ⟨q + 1, by omega, by go_num, I9⟩
              case measure => simp [intOf]; omega
            · have hp : (y7 == [112, 111, 108, 105, 99, 121]) = false := by rw [hpo]; simp [hk2]
              have HW : Hid (Lib.itoa y = wordOf k y) := by show _ = _; rw [wordOf, if_neg hk2]
              have hit := Lib.itoa_length_le y (by omega) hyr.2
              obtain ⟨hy0, hy1⟩ := hyr
              clear hpo hk2
              go_wp2_with fail
              refine (FI_any y _ hE7 hy0 hy1).mono ?_
              rintro e x8 ⟨rfl, hb8⟩
              have I8 := Lib.hid (I7.out.out hb8 hsbb HTL.out)
              clear l0 g1
              go_wp2_with fail
              refine (WS_any b b _ _ x8 I8.out.bld (by omega) I8.out.hb).mono ?_
              rintro e x9 ⟨⟨v9, rfl⟩, hb9, hbe9, hk9⟩
              have I9 := Lib.hid (I8.out.next hb9 hbe9 hk9 hsbb HTL.out)
              rw [HEQ.out _ HW.out] at I9
              clear hb9 hbe9 hk9
              go_wp2
              go_roundw
              case rel => exact ⟨q + 1, by omega, by go_num, I9⟩
              case measure => simp [intOf]; omega
          · have e3 : T.take q = T := List.take_of_length_le (by rw [← HNT.out]; omega)
            rw [e3] at I6 hL6
            clear e3 hr6
            go_wp2_with fail
            refine (WB10 b b _ wi I6.out.bld (by omega) I6.out.hb).mono ?_
            rintro e x7 ⟨rfl, hb7, hbe7, hk7⟩
            have I7 := Lib.hid (I6.out.next hb7 hbe7 hk7 hsbb HTL.out)
            clear hb7 hbe7 hk7
            go_wp2
            go_roundw
            case rel => exact ⟨k + 1, by omega, by go_num, by rw [HSU.out]; exact I7.out.bld, I7.out.set, I7.out.below⟩
            case measure => simp [intOf]; omega
      · obtain rfl : k = 7 := by omega
        clear f0 q1
        go_wp2_with fail
        refine (BS_any b b _ _ hBA.out (by omega)).mono ?_
        rintro e w9 ⟨rfl, hb9⟩
        go_wp2
        go_ret
        exact ⟨ret_str (by rw [HSS.out]), hbwo.trans (hb9.mono (by omega))⟩
  · have hck1 : (ck != 0) = true := by simp [hck]
    have HSS : Hid (S = []) := by show S = _; rw [HS.out, showS, if_neg (by rw [← HC.out]; exact hck)]
    clear hck
    go_wp2
    go_ret
    exact ⟨ret_str (by rw [HSS.out]), hbw2⟩
end Go.Proofs.YtmmmepmjmofbjaaDoor
