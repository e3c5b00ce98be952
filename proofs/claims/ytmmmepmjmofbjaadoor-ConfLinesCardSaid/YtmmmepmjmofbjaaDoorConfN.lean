/- (*Conf).read: a line's words. -/
import Derived.Test.YtmmmepmjmofbjaaDoorProg
import Derived.Test.YtmmmepmjmofbjaaDoorInf
import Derived.Test.YtmmmepmjmofbjaaDoorConfJ
import Derived.Test.YtmmmepmjmofbjaaDoorConfL
import Derived.Test.YtmmmepmjmofbjaaDoorConfM
import Derived.Test.YtmmmepmjmofbjaaDoorConfS
import Derived.Test.YtmmmepmjmofbjaaDoorConfT
set_option linter.unusedVariables false
namespace Go.Proofs.YtmmmepmjmofbjaaDoor
open Go Go.RowKit

/-- all that lay in w lies in w', but two blocks -/
structure But2 (b c : Nat) (w w' : World) : Prop where
  os : w'.os = w.os
  tape : w'.tape = w.tape
  output : w'.output = w.output
  size : w.heap.size ≤ w'.heap.size
  block : ∀ k, k < w.heap.size → k ≠ b → k ≠ c → w'.heap[k]? = w.heap[k]?
section
variable {b c : Nat} {w w' w'' : World}
theorem But2.refl (b c : Nat) (w : World) : But2 b c w w := ⟨rfl, rfl, rfl, Nat.le_refl _, fun _ _ _ _ => rfl⟩
theorem But2.below (h : But2 b c w w') (k : Below w.heap.size w' w'') : But2 b c w w'' :=
  ⟨k.os.trans h.os, k.tape.trans h.tape, k.output.trans h.output, Nat.le_trans h.size k.size, fun i hi h1 h2 => (k.block i hi).trans (h.block i hi h1 h2)⟩
theorem But2.but (h : But2 b c w w') (k : But b w' w'') : But2 b c w w'' :=
  ⟨k.os.trans h.os, k.tape.trans h.tape, k.output.trans h.output, Nat.le_trans h.size k.size, fun i hi h1 h2 => (k.block i (Nat.lt_of_lt_of_le hi h.size) h1).trans (h.block i hi h1 h2)⟩
theorem But2.grown (h : But2 b c w w') (k : w'.grownBy w'' (some c)) : But2 b c w w'' :=
  ⟨k.os.trans h.os, k.tape.trans h.tape, k.output.trans h.output, Nat.le_trans h.size k.size, fun i hi h1 h2 => (k.block i (Nat.lt_of_lt_of_le hi h.size) (by simpa using h2)).trans (h.block i hi h1 h2)⟩
end
theorem But2.toBelow {b c B : Nat} {w w' : World} (h : But2 b c w w') (hb : B ≤ b) (hc : B ≤ c) (hB : B ≤ w.heap.size) : Below B w w' :=
  ⟨h.os, h.tape, h.output, h.size, fun k hk => h.block k (by omega) (by omega) (by omega)⟩
theorem ownsRow_blk {w w' : World} {base : Nat} {e : TypeId} {size : Nat} {v : Value} {n : Nat} {xs : List Value} (h : w.ownsRow base e size v n xs) (hk : ∀ k, k < w.heap.size → w'.heap[k]? = w.heap[k]?) : w'.ownsRow base e size v n xs :=
  ⟨h.1, h.2.imp id fun ⟨g, cap, cur, h1, h2, h3, h4⟩ => ⟨g, cap, cur, h1, h2, (hk g (Array.getElem?_eq_some_iff.1 h3).1).trans h3, h4⟩⟩
theorem numberL_any (y : List UInt8) (w : World) (hE : Env w) (hy : y.length ≤ 1000000) : Calls Tryd.prog 36 #[.string (bs y)] w (NumRet w y) := by
  have := number_any (bs y) w hE (by rw [bs_size]; exact hy)
  rwa [bs_data] at this
/-- the words of the settings that were seen -/
def seenW (l : List Int) : List (List UInt8) := l.map fun k => words7.getD (k.toNat - 1) []
theorem place_word {x : List UInt8} (h : ¬ placeI x = 0) : words7.getD ((placeI x).toNat - 1) [] = x := by
  unfold placeI at h ⊢
  split
  · rename_i k hk
    have := List.of_findIdx?_eq_some (xs := words7) (p := (· == x)) (i := k) (by simpa [List.idxOf?] using hk)
    have e : ((k : Int) + 1).toNat - 1 = k := by omega
    rw [e, List.getD_eq_getElem?_getD]
    split at this
    · rename_i y hy
      rw [hy]; simpa using this
    · simp at this
  · rename_i hk
    rw [hk] at h
    exact absurd rfl h
theorem word_place {k : Int} (h : 1 ≤ k ∧ k ≤ 7) : placeI (words7.getD (k.toNat - 1) []) = k := by
  obtain ⟨n, rfl⟩ := Int.eq_ofNat_of_zero_le (by omega : 0 ≤ k)
  have : n = 1 ∨ n = 2 ∨ n = 3 ∨ n = 4 ∨ n = 5 ∨ n = 6 ∨ n = 7 := by omega
  rcases this with rfl | rfl | rfl | rfl | rfl | rfl | rfl <;> decide
theorem seen_word {l : List Int} {x : List UInt8} (hl : ∀ k ∈ l, 1 ≤ k ∧ k ≤ 7) (h : ¬ placeI x = 0) : (seenW l).contains x = l.contains (placeI x) := by
  induction l with
  | nil => rfl
  | cons k r ih =>
    have h1 := hl k (by simp)
    have e : (x == words7.getD (k.toNat - 1) []) = (placeI x == k) := by
      rw [Bool.eq_iff_iff, beq_iff_eq, beq_iff_eq]
      constructor
      · intro e; rw [e]; exact word_place h1
      · intro e; rw [← e]; exact (place_word h).symm
    simp only [seenW, List.map_cons, List.contains_cons] at ih ⊢
    rw [e, ih fun j hj => hl j (List.mem_cons_of_mem _ hj)]
/-- what holds ahead of a line -/
structure RdPre (w : World) (B0 cb mb n : Nat) (st : Rs) (A : Option Addr) (cap : Nat) : Prop where
  conf : ConfAt w cb st.c A cap
  seen : SeenMap w mb n (seenW st.seen)
  hc8 : 8 ≤ cb
  hm8 : 8 ≤ mb
  hcb : cb < B0
  hmb : mb < B0
  ne : cb ≠ mb
  hB : B0 ≤ w.heap.size
  nil : st.seen.contains 4 = false → A = none ∧ cap = 0
  we : RdP w (NewP B0 w) 1 A st.c.we.length (intsV st.c.we)
  hcap : st.c.we.length ≤ cap
  inv : Inv st
  s17 : ∀ k ∈ st.seen, 1 ≤ k ∧ k ≤ 7
theorem rng_eq {kk : Nat} (h : kk < 7) (h2 : ¬ kk = 2) (v : Int) : rngB ((kk : Int) + 1) v = (decide (setLo.getD kk 0 ≤ v) && decide (v ≤ setHi.getD kk 0)) := by
  match kk, h with
  | 0, _ | 1, _ | 3, _ | 4, _ | 5, _ | 6, _ => rfl
theorem far_bad {kk : Nat} {a b : List (List UInt8)} {y : List UInt8} {v : Int} (hs : a = b ++ [y]) (hv : v = numV y) (h : rngB ((kk : Int) + 1) v = false) : Hid (true = !(a.map numV).all (rngB ((kk : Int) + 1))) := by
  show true = _
  rw [hs, List.map_append, List.all_append, List.map_cons, ← hv]
  simp [h]
theorem far_ok {kk : Nat} {a b : List (List UInt8)} {y : List UInt8} {v : Int} (hs : a = b ++ [y]) (hv : v = numV y) (hb : Hid (false = !(b.map numV).all (rngB ((kk : Int) + 1)))) (h : rngB ((kk : Int) + 1) v = true) : Hid (false = !(a.map numV).all (rngB ((kk : Int) + 1))) := by
  show false = _
  have := hb.out
  rw [hs, List.map_append, List.all_append, List.map_cons, ← hv]
  rw [eq_comm, Bool.not_eq_false'] at this
  simp only [this, List.map_nil, List.all_cons, List.all_nil, h]; rfl
theorem far_on {kk : Nat} {a b : List (List UInt8)} {y : List UInt8} (hs : a = b ++ [y]) (hb : Hid (true = !(b.map numV).all (rngB ((kk : Int) + 1)))) : Hid (true = !(a.map numV).all (rngB ((kk : Int) + 1))) := by
  show true = _
  have := hb.out
  rw [hs, List.map_append, List.all_append]
  rw [eq_comm, Bool.not_eq_true'] at this
  rw [this]; rfl
/-- what comes of it -/
def isWt (k : Nat) : Bool := k == 3
theorem wt_lit (k : Nat) (hk : k < 7) : (words7.getD k [] == [119, 101, 105, 103, 104, 116, 115]) = decide (k = 3) := by
  match k, hk with
  | 0, _ | 1, _ | 2, _ | 3, _ | 4, _ | 5, _ | 6, _ => rfl
theorem pol_lit (k : Nat) (hk : k < 7) : (words7.getD k [] == [112, 111, 108, 105, 99, 121]) = decide (k = 2) := by
  match k, hk with
  | 0, _ | 1, _ | 2, _ | 3, _ | 4, _ | 5, _ | 6, _ => rfl
def RdRet (w : World) (B0 cb mb n : Nat) (o : Int × Rs) (e : Ending) (w' : World) : Prop :=
  e = .returned (.int .i64 o.1) ∧ But2 cb mb w w' ∧ (o.1 = 0 → ∃ A' cap' n', RdPre w' B0 cb mb n' o.2 A' cap' ∧ n' ≤ n + 1)
theorem RdPre.keep {w w' : World} {B0 cb mb n : Nat} {st : Rs} {A : Option Addr} {cap : Nat} (h : RdPre w B0 cb mb n st A cap) (hb : Below w.heap.size w w') : RdPre w' B0 cb mb n st A cap :=
  ⟨(hb.block _ (by have := h.hcb; have := h.hB; omega)).trans h.conf, h.seen.block (hb.block _ h.seen.lt), h.hc8, h.hm8, h.hcb, h.hmb, h.ne, Nat.le_trans h.hB hb.size, h.nil,
    h.we.keep (fun b hb' => hb.block b hb'.2) fun b hb' => ⟨hb'.1, Nat.lt_of_lt_of_le hb'.2 hb.size⟩, h.hcap, h.inv, h.s17⟩
theorem RdRet.same {w w' : World} {B0 cb mb n : Nat} {st : Rs} {A : Option Addr} {cap : Nat} {o : Int × Rs} {v : Value} (ho : o = (0, st)) (hv : v = .int .i64 0) (h : RdPre w B0 cb mb n st A cap) (hb : Below w.heap.size w w') : RdRet w B0 cb mb n o (.returned v) w' := by
  subst ho; subst hv
  exact ⟨rfl, (But2.refl _ _ _).below hb, fun _ => ⟨A, cap, n, h.keep hb, by omega⟩⟩
theorem RdRet.err {w w' : World} {B0 cb mb n : Nat} {st : Rs} {E : Int} {o : Int × Rs} {v : Value} (ho : o = (E, st)) (hE : E ≠ 0) (hv : v = .int .i64 E) (hb : But2 cb mb w w') : RdRet w B0 cb mb n o (.returned v) w' := by
  subst ho; subst hv
  exact ⟨rfl, hb, fun h => absurd h hE⟩

theorem policiesB_any (w : World) :
    Calls Tryd.prog 30 #[] w fun e w' => e = .returned (.slice (some ⟨w.heap.size, 0, none⟩) 2 2) ∧ w'.heap[w.heap.size]? = some (.cells #[.string (bs [116, 97, 105, 108]), .string (bs [111, 108, 100, 101, 115, 116])] 9 (0, 0)) ∧ Below w.heap.size w w' :=
  (policies_any w).mono fun _ _ ⟨he, hw⟩ => ⟨he, by rw [hw]; exact heap_alloc_new _ _, by rw [hw]; exact (by repeat (first | (with_reducible assumption) | (with_reducible exact Below.refl _ _) | (with_reducible refine Below.drewN ?_ _) | (with_reducible refine Below.drew ?_) | (with_reducible refine Below.setCell ?_ (by first | omega | (simp; done) | (simp; omega) | (simp [World.setCell]; done) | (simp [World.setCell]; omega)) _) | (with_reducible refine Below.alloc ?_ (by first | omega | (simp; done) | (simp; omega) | (simp [World.setCell]; done) | (simp [World.setCell]; omega)) _)))⟩
theorem idx3 (y : List UInt8) : Lib.idxOfS ([bs [116, 97, 105, 108], bs [111, 108, 100, 101, 115, 116]].take 2) (bs y) = if y = tail4 then 0 else if y = oldest6 then 1 else -1 := by
  have h : ∀ a b : List UInt8, (bs a = bs b) ↔ (b = a) := fun a b => by rw [eq_comm (a := b)]; simp [bs]
  show (if bs tail4 = bs y then ((0 : Nat) : Int) else if bs oldest6 = bs y then ((0 + 1 : Nat) : Int) else -1) = _
  by_cases h1 : y = tail4
  · rw [if_pos ((h _ _).2 h1), if_pos h1]; rfl
  · rw [if_neg (fun e => h1 ((h _ _).1 e)), if_neg h1]
    by_cases h2 : y = oldest6
    · rw [if_pos ((h _ _).2 h2), if_pos h2]; rfl
    · rw [if_neg (fun e => h2 ((h _ _).1 e)), if_neg h2]
theorem idx3_le (y : List UInt8) : (if y = tail4 then (0 : Int) else if y = oldest6 then 1 else -1) ≤ 1 := by
  by_cases h1 : y = tail4
  · rw [if_pos h1]; decide
  · rw [if_neg h1]
    by_cases h2 : y = oldest6
    · rw [if_pos h2]; decide
    · rw [if_neg h2]; decide
theorem takeC_we {c : Cf} {k : Nat} {l : List Int} (h : k ≠ 3) : (takeC c k l).we = c.we := by
  unfold takeC; split <;> first | rfl | (exfalso; omega)
theorem takeC_3 {c : Cf} {l : List Int} : (takeC c 3 l).we = l := rfl
theorem lineD_take {c : Cf} {kk : Nat} {r : List (List UInt8)} (h : kk < 7) (h2 : ¬ kk = 2) : lineD c ((kk : Int) + 1) r = takeC c kk (r.map numV) := by
  match kk, h with
  | 0, _ | 1, _ | 3, _ | 4, _ | 5, _ | 6, _ => rfl
theorem RdRet.good {w wr w7 : World} {B0 cb mb n kk : Nat} {st : Rs} {A : Option Addr} {cap : Nat} {x : List UInt8} {r : List (List UInt8)} {ns : List Int} {e : Ending} {v : Value} (hP : RdPre w B0 cb mb n st A cap) (hk7 : kk < 7)
    (hone : oneLine st (x :: r) = (0, ⟨takeC st.c kk ns, ((kk : Int) + 1) :: st.seen⟩)) (hl : (x :: r).length ≤ 1000) (hx : words7.getD kk [] = x) (hseen : SeenMap w7 mb (n + 1) (x :: seenW st.seen))
    (hbut : But2 cb mb w w7) (ht : TakeRet wr cb st.c A cap kk ns e w7) (hwr : w.heap.size ≤ wr.heap.size) (hv : v = .int .i64 0) : RdRet w B0 cb mb n (oneLine st (x :: r)) (.returned v) w7 := by
  subst hv
  obtain ⟨_, A', cap', hc, h3, h3', _⟩ := ht
  refine ⟨by rw [hone], hbut, fun _ => ⟨A', cap', n + 1, ?_, Nat.le_refl _⟩⟩
  have hinv := hP.inv.step hl (by rw [hone])
  rw [hone] at hinv ⊢
  have hlt : B0 ≤ w7.heap.size := Nat.le_trans hP.hB hbut.size
  refine ⟨hc, ?_, hP.hc8, hP.hm8, hP.hcb, hP.hmb, hP.ne, hlt, ?_, ?_, ?_, hinv, ?_⟩
  · have : seenW (((kk : Int) + 1) :: st.seen) = x :: seenW st.seen := by
      have e : ((kk : Int) + 1).toNat - 1 = kk := by omega
      simp only [seenW, List.map_cons, e, hx]
    rw [this]; exact hseen
  · intro h
    simp only [List.contains_cons, Bool.or_eq_false_iff, beq_eq_false_iff_ne] at h
    have hk3 : kk ≠ 3 := by rintro rfl; exact h.1 rfl
    obtain ⟨rfl, rfl⟩ := h3 hk3
    exact hP.nil h.2
  · by_cases hk3 : kk = 3
    · subst hk3
      rw [takeC_3]
      exact (h3' rfl).1.mono fun b hb => ⟨by have := hP.hB; have := hb.1; omega, hb.2⟩
    · obtain ⟨rfl, rfl⟩ := h3 hk3
      rw [takeC_we hk3]
      exact hP.we.keep (fun b hb => hbut.block b hb.2 (by have := hb.1; have := hP.hcb; omega) (by have := hb.1; have := hP.hmb; omega)) fun b hb => ⟨hb.1, Nat.lt_of_lt_of_le hb.2 hbut.size⟩
  · by_cases hk3 : kk = 3
    · subst hk3
      rw [takeC_3]; exact (h3' rfl).2
    · obtain ⟨rfl, rfl⟩ := h3 hk3
      rw [takeC_we hk3]; exact hP.hcap
  · intro k hk
    rcases List.mem_cons.1 hk with rfl | h
    · omega
    · exact hP.s17 k h

set_option maxRecDepth 100000 in
set_option maxHeartbeats 6400000 in
theorem read_any (st : Rs) (B0 cb mb n : Nat) (A : Option Addr) (cap : Nat) (ws : List (List UInt8)) (W : Option Addr) (wc : Nat) (w : World) (hE : Env w) (hP : RdPre w B0 cb mb n st A cap) (hn : n < 100000) (hl : ws.length ≤ 1000)
    (hW : RdP w (NewP B0 w) 1 W ws.length (strsV ws)) (hwc : ws.length ≤ wc) (hws : ∀ x ∈ ws, x ≠ [] ∧ x.length ≤ 1000) :
    Calls Tryd.prog 21 #[.pointer (some ⟨cb, 0, none⟩), .slice W ws.length wc, .map (some mb)] w (RdRet w B0 cb mb n (oneLine st ws)) := by
  have HP := Lib.hid hP
  have HWS := Lib.hid hws
  have hmf : ∀ (fn : Fn) (first cap : Array Value) (w : World), (Instr.makeFunc fn first cap).run Tryd.prog w = .ok (.func fn first cap) w := fun _ _ _ _ => rfl
  have hcbs : cb < w.heap.size := by have := hP.hcb; have := hP.hB; omega
  have hmbs : mb < w.heap.size := hP.seen.lt
  clear hP hws
  cases ws with
  | nil =>
    go_enter Tryd.func21, Tryd.ntmps21
    go_wp2
    go_ret
    exact RdRet.same rfl rfl HP.out (by repeat (first | (with_reducible assumption) | (with_reducible exact Below.refl _ _) | (with_reducible refine Below.drewN ?_ _) | (with_reducible refine Below.drew ?_) | (with_reducible refine Below.setCell ?_ (by first | omega | (simp; done) | (simp; omega) | (simp [World.setCell]; done) | (simp [World.setCell]; omega)) _) | (with_reducible refine Below.alloc ?_ (by first | omega | (simp; done) | (simp; omega) | (simp [World.setCell]; done) | (simp [World.setCell]; omega)) _)))
  | cons x r =>
    obtain ⟨hx1, hx2⟩ := HWS.out x (by simp)
    cases x with
    | nil => exact absurd rfl hx1
    | cons c0 x' =>
    obtain ⟨m, hm⟩ : ∃ m, m = ((c0 :: x') :: r).length := ⟨_, rfl⟩
    rw [← hm] at hW hl hwc ⊢
    have m0 : ((m : Int) == 0) = false := by rw [beq_eq_false_iff_ne, hm]; simp; omega
    have mpos : 0 < m := by rw [hm]; simp
    have HM := Lib.hid hm
    clear hm
    have HW := Lib.hid hW
    obtain ⟨ad, rfl, had, hcell⟩ := hW.2 mpos
    clear hW
    obtain ⟨sx, hsx⟩ : ∃ sx, sx = bs (c0 :: x') := ⟨_, rfl⟩
    have g2 : w.cell? ad = some (.string sx) := by
      have := hcell 0 _ (strsV_get (l := (c0 :: x') :: r) (by simp))
      rw [hsx]
      simpa [Addr.add] using this
    clear hcell
    have g3 : ∀ o, (w.alloc o).cell? ad = some (.string sx) := fun o => (World.cell?_alloc_lt _ _ _ had.2).trans g2
    have hsp : 0 < sx.size := by rw [hsx, bs_size]; simp
    have hsc : sx[0] = c0 := by subst hsx; rfl
    have HSX := Lib.hid hsx
    have HSC := Lib.hid hsc
    clear hsx hsc
    by_cases h35 : ((sx[0].toNat : Int) == 35) = true
    · have H35 := Lib.hid h35
      go_enter Tryd.func21, Tryd.ntmps21
      go_wp2
      go_ret
      exact RdRet.same (one_rem (by have h := H35.out; rw [beq_iff_eq] at h; have h2 : sx[0] = 35 := UInt8.toNat.inj (by simpa using (by omega : sx[0].toNat = 35)); rw [List.head?_cons, ← HSC.out, h2])) rfl HP.out (by repeat (first | (with_reducible assumption) | (with_reducible exact Below.refl _ _) | (with_reducible refine Below.drewN ?_ _) | (with_reducible refine Below.drew ?_) | (with_reducible refine Below.setCell ?_ (by first | omega | (simp; done) | (simp; omega) | (simp [World.setCell]; done) | (simp [World.setCell]; omega)) _) | (with_reducible refine Below.alloc ?_ (by first | omega | (simp; done) | (simp; omega) | (simp [World.setCell]; done) | (simp [World.setCell]; omega)) _)))
    have h35' : ((sx[0].toNat : Int) == 35) = false := by simpa using h35
    clear h35
    have hno : Hid (¬ (c0 :: x').head? = some 35) := by
      show ¬ _
      rw [List.head?_cons, ← HSC.out]
      intro h
      injection h with h
      rw [h] at h35'
      simp at h35'
    go_enter Tryd.func21, Tryd.ntmps21
    go_wp2_with first
      | (go_at_call 27; refine (settings_any _).mono ?_; rintro e w2 ⟨rfl, rfl⟩)
      | fail
    have hb1 : Below w.heap.size w ((w.alloc (.cells #[.slice (some ad) m wc] 41)).alloc (.cells setCells 62)) := (by repeat (first | (with_reducible assumption) | (with_reducible exact Below.refl _ _) | (with_reducible refine Below.drewN ?_ _) | (with_reducible refine Below.drew ?_) | (with_reducible refine Below.setCell ?_ (by first | omega | (simp; done) | (simp; omega) | (simp [World.setCell]; done) | (simp [World.setCell]; omega)) _) | (with_reducible refine Below.alloc ?_ (by first | omega | (simp; done) | (simp; omega) | (simp [World.setCell]; done) | (simp [World.setCell]; omega)) _)))
    have q0 : ((w.alloc (.cells #[.slice (some ad) m wc] 41)).alloc (.cells setCells 62)).heap[w.heap.size]? = some (.cells #[.slice (some ad) m wc] 41 (0, 0)) := by
      rw [Below.heap_alloc _ _ _ (by simp)]; exact heap_alloc_new w _
    have q1 : ((w.alloc (.cells #[.slice (some ad) m wc] 41)).alloc (.cells setCells 62)).heap[w.heap.size + 1]? = some (.cells setCells 62 (0, 0)) := by
      have := heap_alloc_new (w.alloc (.cells #[.slice (some ad) m wc] 41)) (.cells setCells 62)
      simpa using this
    have s1 : ((w.alloc (.cells #[.slice (some ad) m wc] 41)).alloc (.cells setCells 62)).heap.size = w.heap.size + 2 := by simp
    obtain ⟨w1, hw1⟩ : ∃ w1, w1 = ((w.alloc (.cells #[.slice (some ad) m wc] 41)).alloc (.cells setCells 62)) := ⟨_, rfl⟩
    rw [← hw1] at hb1 q0 q1 s1 ⊢
    clear hw1 g3
    refine (indexFunc_any _ _ (c0 :: x') _ q1 ?_).mono ?_
    · intro V k hV
      refine isWord_any k (c0 :: x') _ ad m wc V mpos (by have := hV.size; omega) (by have := hV.size; have := had.2; omega) ?_ ?_
      · rw [hV.cell (by show w.heap.size < _; omega), cell_of_row w1 w.heap.size 0 _ _ _ q0]; rfl
      · rw [hV.cell (by have := had.2; omega), hb1.cell had.2, g2, HSX.out]
    rintro e w2 ⟨rfl, hb2⟩
    have hs2 := hb2.size
    have hbw2 : Below w.heap.size w w2 := hb1.trans (hb2.mono (by omega))
    have q0' := (hb2.block w.heap.size (by omega)).trans q0
    have q1' := (hb2.block (w.heap.size + 1) (by omega)).trans q1
    have f0 := fun i => cell_of_row w2 w.heap.size i _ _ _ q0'
    have z0 := fun i => frozen_of_row w2 w.heap.size i _ _ q0'
    have g4 : w2.cell? ad = some (.string sx) := (hbw2.cell had.2).trans g2
    have HP2 := HP.out.keep hbw2
    obtain ⟨pk, hpk⟩ : ∃ pk, pk = placeI (c0 :: x') := ⟨_, rfl⟩
    rw [← hpk]
    have hpb := place_bd (c0 :: x')
    rw [← hpk] at hpb
    have HPK := Lib.hid hpk
    clear hpk hb2 hs2 q0 q1
    by_cases hk0 : pk = 0
    · subst hk0
      go_wp2
      go_ret
      exact RdRet.err (one_key hno.out HPK.out.symm) (by decide) rfl ((But2.refl _ _ _).below hbw2)
    obtain ⟨kk, hkk⟩ : ∃ kk : Nat, pk - 1 = (kk : Int) := ⟨(pk - 1).toNat, by omega⟩
    have hk7 : kk < 7 := by omega
    have hkp : pk = (kk : Int) + 1 := by omega
    rw [hkk]
    have hz0 : Hid (¬ placeI (c0 :: x') = 0) := by show ¬ _; rw [← HPK.out]; exact hk0
    have hlook := HP2.seen.look (c0 :: x') (by simp at hx2 ⊢; omega)
    rw [seen_word HP2.s17 hz0.out, ← HSX.out] at hlook
    obtain ⟨sk, hsk⟩ : ∃ sk, sk = st.seen.contains (placeI (c0 :: x')) := ⟨_, rfl⟩
    rw [← hsk] at hlook
    have HSK := Lib.hid hsk
    have HPB := Lib.hid hpb
    have HKP := Lib.hid hkp
    have HKK := Lib.hid hkk
    clear hsk hk0 hpb hkp hkk
    have HP2 := Lib.hid HP2
    cases sk with
    | true =>
      go_wp2
      go_ret
      exact RdRet.err (one_twice hno.out hz0.out HSK.out.symm) (by decide) rfl ((But2.refl _ _ _).below hbw2)
    | false =>
      obtain ⟨w3, hstore, hseen3, hgrow3⟩ := HP2.out.seen.store (by omega) (c0 :: x') (by simp at hx2 ⊢; omega)
      rw [← HSX.out] at hstore
      have hbut3 : But2 cb mb w w3 := ((But2.refl cb mb w).below hbw2).grown hgrow3
      have hs3 := hgrow3.size
      have hs2 := hbw2.size
      have hs2' : w.heap.size + 2 ≤ w2.heap.size := by have := (Array.getElem?_eq_some_iff.1 q1').1; omega
      have k3 : ∀ k, k < w2.heap.size → k ≠ mb → w3.heap[k]? = w2.heap[k]? := fun k hk hne => hgrow3.block k hk (by simpa using hne)
      have q0'' := (k3 w.heap.size (by omega) (by omega)).trans q0'
      have f0' := fun i => cell_of_row w3 w.heap.size i _ _ _ q0''
      have z0' := fun i => frozen_of_row w3 w.heap.size i _ _ q0''
      have q1'' := (k3 (w.heap.size + 1) (by omega) (by omega)).trans q1'
      have hsl : ∀ V : World, (Instr.slice 41 (.slice (some ad) m wc) (some (.int .i64 1)) none none).run Tryd.prog V = .ok (.slice (if wc = 1 then some ad else some (ad.add 1)) (m - 1) (wc - 1)) V := by
        intro V
        have := run_slice_tail (P := Tryd.prog) (t := 41) (e := 9) (size := 1) (by kernel_rfl) (fun _ => by kernel_rfl) (some ad) m wc 1 mpos V
        simpa using this
      obtain ⟨Wd, hWd⟩ : ∃ Wd, Wd = if wc = 1 then some ad else some (ad.add 1) := ⟨_, rfl⟩
      rw [← hWd] at hsl
      have HWD := Lib.hid hWd
      have HS3 := Lib.hid hseen3
      have HK3 := Lib.hid k3
      have HB3 := Lib.hid hbut3
      have Q1 := Lib.hid q1''
      have Q0 := Lib.hid q0''
      clear hWd hseen3 hgrow3 k3 hbut3 q0'' q1'' q0' q1'
      go_upto_region 11 with fail
      obtain ⟨w4, hw4⟩ : ∃ w4, w4 = w3.setCell ⟨w.heap.size, 0, none⟩ (.slice Wd (m - 1) (wc - 1)) := ⟨_, rfl⟩
      rw [← hw4]
      have e0 : w4.heap[w.heap.size]? = some (.cells #[.slice Wd (m - 1) (wc - 1)] 41 (0, 0)) := by
        rw [hw4]; exact (heap_setCell_same _ _ _ _ _ _ Q0.out).trans rfl
      have ko : ∀ k, k ≠ w.heap.size → w4.heap[k]? = w3.heap[k]? := fun k hk => by rw [hw4]; exact Below.heap_setCell _ _ _ _ hk
      have p1 : w4.heap[w.heap.size + 1]? = some (.cells setCells 62 (0, 0)) := (ko _ (by omega)).trans Q1.out
      have hs4 : w4.heap.size = w3.heap.size := by rw [hw4]; simp [World.setCell]
      have HB4 : Hid (But2 cb mb w w4) := by
        show But2 _ _ _ _
        have h := HB3.out
        refine ⟨?_, ?_, ?_, ?_, fun k hk h1 h2 => (ko k (by omega)).trans (h.block k hk h1 h2)⟩
        · rw [hw4]; exact h.os
        · rw [hw4]; exact h.tape
        · rw [hw4]; exact h.output
        · rw [hs4]; exact h.size
      have HW4 := Lib.hid hw4
      have HKO := Lib.hid ko
      clear hw4 f0 f0' z0 z0' hstore hlook hsl g2 g4 ko
      have f0 := fun i => cell_of_row w4 w.heap.size i _ _ _ e0
      have z0 := fun i => frozen_of_row w4 w.heap.size i _ _ e0
      have hrl : r.length = m - 1 := by have := HM.out; simp at this; omega
      have HRL := Lib.hid hrl
      clear hrl
      obtain ⟨l0, l1, l2, l3, l4⟩ := set_five p1 hk7 (setRow_eq kk)
      have hwt := wt_lit kk hk7
      have hpo := pol_lit kk hk7
      obtain ⟨y7, hy7⟩ : ∃ y7, y7 = words7.getD kk [] := ⟨_, rfl⟩
      obtain ⟨lo, hlo⟩ : ∃ lo, lo = setLo.getD kk 0 := ⟨_, rfl⟩
      obtain ⟨hi, hhi⟩ : ∃ hi, hi = setHi.getD kk 0 := ⟨_, rfl⟩
      obtain ⟨tf, htf⟩ : ∃ tf, tf = takeF.getD kk 0 := ⟨_, rfl⟩
      rw [← hy7] at l0 hwt hpo
      rw [← hlo] at l1
      rw [← hhi] at l2
      rw [← htf] at l3
      have HLO := Lib.hid hlo
      have HHI := Lib.hid hhi
      have HTF := Lib.hid htf
      clear hy7 hlo hhi htf l4
      by_cases hm1 : m - 1 = 0
      · have n0 : (((m - 1 : Nat) : Int) == 0) = true := by simp [hm1]
        have HM1 := Lib.hid hm1
        clear hm1
        go_wp2
        go_ret
        refine RdRet.err (E := 11) (st := st) ?_ (by decide) rfl HB4.out
        have he : lineE (placeI (c0 :: x')) r = 11 := line_none (.inl (by rw [HRL.out, HM1.out]))
        rw [one_bad hno.out hz0.out HSK.out.symm (by rw [he]; decide), he]
      have n0 : (((m - 1 : Nat) : Int) == 0) = false := by rw [beq_eq_false_iff_ne]; omega
      by_cases hbad : 1 < m - 1 ∧ kk ≠ 3
      · obtain ⟨hm2, hk3⟩ := hbad
        have y3 : (!y7 == [119, 101, 105, 103, 104, 116, 115]) = true := by rw [hwt]; simp [hk3]
        clear hwt hpo
        go_wp2
        go_ret
        refine RdRet.err (E := 11) (st := st) ?_ (by decide) rfl HB4.out
        have he : lineE (placeI (c0 :: x')) r = 11 := line_none (.inr ⟨by rw [HRL.out]; exact hm2, by rw [← HPK.out]; have := HKP.out; omega⟩)
        rw [one_bad hno.out hz0.out HSK.out.symm (by rw [he]; decide), he]
      have hcond : (m - 1 ≤ 1) ∨ (1 < m - 1 ∧ (!y7 == [119, 101, 105, 103, 104, 116, 115]) = false) := by
        by_cases h1 : m - 1 ≤ 1
        · exact .inl h1
        · right
          have hk3 : kk = 3 := by
            by_cases h3 : kk = 3
            · exact h3
            · exact absurd ⟨by omega, h3⟩ hbad
          refine ⟨by omega, ?_⟩
          rw [hwt, hk3]; rfl
      have HBAD := Lib.hid hbad
      clear hbad hwt
      have HE4 : Env w4 := hE.below (HB4.out.toBelow HP.out.hc8 HP.out.hm8 hE.size) (Nat.le_refl _)
      have hwd : Reads w4 w4.heap.size 1 Wd (m - 1) (strsV r) := by
        have h4 := HB4.out
        have h1 : RdP w4 (fun b => b < w4.heap.size) 1 (some ad) m (strsV ((c0 :: x') :: r)) := HW.out.keep (fun b hb => h4.block b hb.2 (by have := hb.1; have := HP.out.hcb; omega) (by have := hb.1; have := HP.out.hmb; omega)) fun b hb => Nat.lt_of_lt_of_le hb.2 h4.size
        have h2 := (h1.toReads (B := w4.heap.size) fun _ h => h).cut (k := 1) (cap := wc) (by omega) hwc
        rw [HWD.out]
        simpa [strsV] using h2
      obtain ⟨adw, hWd, hbw, hcw⟩ := hwd.2 (by omega)
      subst hWd
      have HCW := Lib.hid hcw
      clear hcw hwd
      by_cases hk2 : kk = 2
      · subst hk2
        have hm1 : m - 1 = 1 := by
          by_cases h : m - 1 = 1
          · exact h
          · exact absurd ⟨by omega, by omega⟩ HBAD.out
        obtain ⟨y, hy⟩ : ∃ y, r = [y] := by
          have := HRL.out
          rw [hm1] at this
          match r, this with
          | [y], _ => exact ⟨y, rfl⟩
        subst hy
        have hys : y.length ≤ 1000000 := by have := (HWS.out y (by simp)).2; omega
        have g1 : w4.cell? adw = some (.string (bs y)) := by
          have := HCW.out 0 _ (strsV_get (l := [y]) (by simp))
          simpa [Addr.add] using this
        have y2 : (y7 == [112, 111, 108, 105, 99, 121]) = true := by rw [hpo]; rfl
        rw [beq_iff_eq] at y2
        subst y2
        clear hpo hcond
        rw [hm1] at n0 e0 f0 ⊢
        obtain ⟨iv, hiv⟩ : ∃ iv, iv = Lib.idxOfS ([bs [116, 97, 105, 108], bs [111, 108, 100, 101, 115, 116]].take 2) (bs y) := ⟨_, rfl⟩
        have HIV := Lib.hid hiv
        clear hiv
        have hnum := Lib.hid (numberL_any y w4 HE4 hys)
        unfold NumRet at hnum
        generalize isNum y = bn at hnum
        generalize numV y = vn at hnum
        have hl0 : ∀ w5, Below w4.heap.size w4 w5 → Hid (w5.cell? ⟨w.heap.size + 1, 2 * 5, none⟩ = some (.string (bs [112, 111, 108, 105, 99, 121])) ∧ w5.cell? ⟨w.heap.size + 1, 2 * 5 + 1, none⟩ = some (.int .i64 lo) ∧ w5.cell? ⟨w.heap.size + 1, 2 * 5 + 2, none⟩ = some (.int .i64 hi) ∧ w5.cell? ⟨w.heap.size + 1, 2 * 5 + 3, none⟩ = some (.func (.func tf) #[] #[])) := by
          intro w5 h5
          have hp1 : ∀ i, w5.cell? ⟨w.heap.size + 1, i, none⟩ = w4.cell? ⟨w.heap.size + 1, i, none⟩ := fun i => h5.cell (by show w.heap.size + 1 < _; omega)
          exact ⟨(hp1 _).trans l0, (hp1 _).trans l1, (hp1 _).trans l2, (hp1 _).trans l3⟩
        have hidx : ∀ (V : World) (g : Nat), V.heap[g]? = some (.cells #[.string (bs [116, 97, 105, 108]), .string (bs [111, 108, 100, 101, 115, 116])] 9 (0, 0)) →
            Calls Tryd.prog 37 #[.slice (some ⟨g, 0, none⟩) 2 2, .string (bs y)] V fun e w' => e = .returned (.int .i64 iv) ∧ w' = V := by
          intro V g h
          have := Tryd.slices_Index_string g 0 2 2 [bs [116, 97, 105, 108], bs [111, 108, 100, 101, 115, 116]] (bs y) V (by decide) (by decide) (pol_cells h)
          rw [← HIV.out] at this
          exact this
        have HIDX := Lib.hid hidx
        clear hidx
        have hlo0 : lo = 0 := HLO.out
        have hhi1 : hi = 1 := HHI.out
        subst hlo0
        subst hhi1
        clear HLO HHI
        have hiv3 := idx3 y
        rw [← HIV.out] at hiv3
        by_cases hneg : iv < 0
        · have d0 : decide (0 ≤ iv) = false := by simpa using hneg
          have HIV3 := Lib.hid hiv3
          clear hiv3
          go_wp2
          refine wp_loop_rounds 2 ?_
          rw [rounds_succ]
          go_wp2_with (first | (go_at_call 36; refine hnum.out.mono ?_; rintro e w5 ⟨rfl, hb5⟩; obtain ⟨m0', m1', m2', m3'⟩ := (hl0 w5 hb5).out) | (go_at_call 30; refine (policiesB_any _).mono ?_; rintro e w6 ⟨rfl, hp6, hb6⟩; have a1 := (hb6.cell (p := ⟨w.heap.size + 1, 11, none⟩) (by have := hb5.size; show w.heap.size + 1 < _; omega)).trans m1'; have a2 := (hb6.cell (p := ⟨w.heap.size + 1, 12, none⟩) (by have := hb5.size; show w.heap.size + 1 < _; omega)).trans m2'; have hb46 := hb5.trans (hb6.mono hb5.size); have hs6 : w4.heap.size ≤ w6.heap.size := hb46.size) | (go_at_call 37; refine (HIDX.out _ _ hp6).mono ?_; rintro e w7 ⟨rfl, hw7⟩; subst hw7))
          go_ret
          refine RdRet.err (E := 11) (st := st) ?_ (by decide) rfl (HB4.out.below ?_)
          · have he : lineE (placeI (c0 :: x')) [y] = 11 := by
              have := HIV3.out
              rw [← HPK.out, HKP.out]
              by_cases h1 : y = tail4
              · rw [if_pos h1] at this; omega
              rw [if_neg h1] at this
              by_cases h2 : y = oldest6
              · rw [if_pos h2] at this; omega
              simp [lineE, h1, h2]
            rw [one_bad hno.out hz0.out HSK.out.symm (by rw [he]; decide), he]
          · exact hb46.mono (by have := HB4.out.size; omega)
        · have d0 : decide (0 ≤ iv) = true := by simpa using hneg
          have hle1 : iv ≤ 1 := by rw [hiv3]; exact idx3_le y
          have HIV3 := Lib.hid hiv3
          clear hiv3
          have hent := take_enters 2 hk7
          have htk := fun (w8 : World) (L : Option Addr) (cl : Nat) (h1 : Reads w8 w8.heap.size 1 L 1 (intsV [iv])) (h2 : ConfAt w8 cb st.c A cap) (h3 : ∀ ad, L = some ad → ad.block ≠ cb) => take_any 2 hk7 st.c A cap cb [iv] L cl w8 (by simp) (by simp) h1 h2 (fun h => by omega) h3
          rw [← HTF.out] at hent htk
          have HTK := Lib.hid htk
          clear htk
          go_wp2
          refine wp_loop_rounds 2 ?_
          rw [rounds_succ]
          go_wp2_with (first | (go_at_call 36; refine hnum.out.mono ?_; rintro e w5 ⟨rfl, hb5⟩; obtain ⟨m0', m1', m2', m3'⟩ := (hl0 w5 hb5).out) | (go_at_call 30; refine (policiesB_any _).mono ?_; rintro e w6 ⟨rfl, hp6, hb6⟩; have a1 := (hb6.cell (p := ⟨w.heap.size + 1, 11, none⟩) (by have := hb5.size; show w.heap.size + 1 < _; omega)).trans m1'; have a2 := (hb6.cell (p := ⟨w.heap.size + 1, 12, none⟩) (by have := hb5.size; show w.heap.size + 1 < _; omega)).trans m2'; have hb46 := hb5.trans (hb6.mono hb5.size); have hs6 : w4.heap.size ≤ w6.heap.size := hb46.size) | (go_at_call 37; refine (HIDX.out _ _ hp6).mono ?_; rintro e w7 ⟨rfl, hw7⟩; subst hw7) | (at_builtin; refine wpList_app1 El63 rfl _ _ rfl rfl (World.ownsRow_nil _ w4.heap.size _ _) rfl rfl (by simp [Value.oneCell']) (by omega) hs6 hb46 ?_; intro v' w8 hown' hb8))
          have hs5 := hb5.size
          have hb48 := hb8
          have hs8 := hb8.size
          obtain ⟨A', c', rfl, hc', hr'⟩ := RdP.of_own hown'
          have hcf : ConfAt w8 cb st.c A cap := ((hb8.block cb (by have := HP.out.hcb; omega)).trans ((HKO.out cb (by omega)).trans (HK3.out cb (by omega) HP.out.ne))).trans HP2.out.conf
          have htk := HTK.out w8 A' c' hr'.news hcf (by
            rintro ad2 rfl
            obtain ⟨ad3, e3, hb3, _⟩ := hr'.2 (by omega)
            injection e3 with e3
            subst e3
            have := hb3.1
            omega)
          have l3' : w8.cell? ⟨w.heap.size + 1, 13, none⟩ = some (.func (.func tf) #[] #[]) := (hb8.cell (by show w.heap.size + 1 < _; omega)).trans l3
          clear hr' hown'
          rw [rounds_succ]
          go_wp2_with (go_at_fn tf; refine htk.mono ?_; rintro e w9 ht; obtain rfl := ht.1)
          go_ret
          obtain ⟨_, A7, cap7, _, _, _, hbut7⟩ := id ht
          refine RdRet.good HP.out hk7 (ns := [iv]) ?_ (by rw [← HM.out]; exact hl) ?_ (HS3.out.block ?_) ((HB4.out.below (hb8.mono (by omega))).but hbut7) ht (by omega) rfl
          · have hiv := HIV3.out
            have h0 : lineE (placeI (c0 :: x')) [y] = 0 := by
              rw [← HPK.out, HKP.out]
              by_cases h1 : y = tail4
              · simp [lineE, h1]
              · by_cases h2 : y = oldest6
                · simp [lineE, h2]
                · rw [if_neg h1, if_neg h2] at hiv; omega
            rw [one_good hno.out hz0.out HSK.out.symm h0, ← HPK.out, HKP.out]
            have : lineD st.c (((2 : Nat) : Int) + 1) [y] = takeC st.c 2 [iv] := by
              have e3 : (((2 : Nat) : Int) + 1) = 3 := rfl
              rw [e3]
              simp only [lineD, if_true, takeC, List.headD_cons]
              congr 1
              rw [Bool.eq_iff_iff, beq_iff_eq, beq_iff_eq, hiv]
              by_cases h1 : y = tail4
              · rw [if_pos h1, h1]; decide
              · rw [if_neg h1]
                by_cases h2 : y = oldest6
                · rw [if_pos h2]; simp [h2]
                · rw [if_neg h2]; simp [h2]
            rw [this]
          · have h := place_word hz0.out
            rw [← HPK.out, HKP.out] at h
            rw [← h]
            congr 1
          · exact (hbut7.block mb (by omega) (Ne.symm HP.out.ne)).trans ((hb8.block mb (by omega)).trans (HKO.out mb (by omega)))
      have y2 : (y7 == [112, 111, 108, 105, 99, 121]) = false := by rw [hpo]; simp [hk2]
      clear hpo
      have hpos : 0 < m - 1 := by omega
      obtain ⟨n2, hn2⟩ : ∃ n2, n2 = m - 1 := ⟨_, rfl⟩
      have HN2 : Hid (n2 = r.length) := by show n2 = r.length; rw [HRL.out]; exact hn2
      rw [← hn2] at n0 hcond hpos e0 f0 ⊢
      have hl2 : n2 ≤ 1000 := by omega
      rw [← hn2] at HRL HBAD
      clear hn2
      rcases hcond with hc1 | ⟨hc1, hc2⟩
      all_goals
        go_wp2
        go_loopw [9, 10, 12, 13, 14, 60] (fun v far _ _ _ i wr => ∃ q : Nat, q ≤ n2 ∧ i = .int .i64 q ∧ wr.ownsRow w3.heap.size 2 1 v q (intsV ((r.take q).map numV)) ∧
            (∃ fb, far = .bool fb ∧ Hid (fb = !((r.take q).map numV).all (rngB (kk + 1)))) ∧ Hid ((r.take q).all isNum = true) ∧ Below w3.heap.size w4 wr) (fun _ _ _ _ _ i _ => n2 - (intOf i).toNat)
        case atStart => exact ⟨0, Nat.zero_le _, rfl, World.ownsRow_nil _ _ _ _, ⟨false, rfl, rfl⟩, rfl, Below.refl _ _⟩
        case round =>
          obtain ⟨q, hq, rfl, hown, ⟨fb, rfl, hfb⟩, hall, hbl⟩ := hrel
          have hB : w3.heap.size ≤ wr.heap.size := by have := hbl.size; omega
          have hEr : Env wr := HE4.below hbl (by have := hE.size; omega)
          by_cases hlt : q < n2
          · have hx : q < r.length := by rw [← HN2.out]; exact hlt
            obtain ⟨y, hy⟩ : ∃ y, y = r[q] := ⟨_, rfl⟩
            have hys : y.length ≤ 1000000 := by rw [hy]; have := (HWS.out r[q] (List.mem_cons_of_mem _ (List.getElem_mem hx))).2; omega
            have g1 : wr.cell? (adw.add q) = some (.string (bs y)) := (hbl.cell (by rw [block_of_add]; omega)).trans (by rw [hy]; exact HCW.out q _ (strsV_get hx))
            have HS := Lib.hid (show r.take (q + 1) = r.take q ++ [y] by rw [hy]; exact List.take_succ_eq_append_getElem hx)
            have HYM := Lib.hid (show y ∈ r by rw [hy]; exact List.getElem_mem hx)
            clear hy
            have hnum := Lib.hid (numberL_any y wr hEr hys)
            obtain ⟨bn, hbn⟩ : ∃ bn, bn = isNum y := ⟨_, rfl⟩
            obtain ⟨vn, hvn⟩ : ∃ vn, vn = numV y := ⟨_, rfl⟩
            unfold NumRet at hnum
            rw [← hbn, ← hvn] at hnum
            have HVN := Lib.hid hvn
            have HBN := Lib.hid hbn
            clear hvn hbn
            have hl0 : ∀ w5, Below wr.heap.size wr w5 → Hid (w5.cell? ⟨w.heap.size + 1, kk * 5, none⟩ = some (.string (bs y7)) ∧ w5.cell? ⟨w.heap.size + 1, kk * 5 + 1, none⟩ = some (.int .i64 lo) ∧ w5.cell? ⟨w.heap.size + 1, kk * 5 + 2, none⟩ = some (.int .i64 hi)) := by
              intro w5 h5
              have hp1 : ∀ i, w5.cell? ⟨w.heap.size + 1, i, none⟩ = w4.cell? ⟨w.heap.size + 1, i, none⟩ := fun i => (h5.cell (by show w.heap.size + 1 < _; omega)).trans (hbl.cell (by show w.heap.size + 1 < _; omega))
              exact ⟨(hp1 _).trans l0, (hp1 _).trans l1, (hp1 _).trans l2⟩
            cases bn with
            | false =>
              go_wp2_with (go_at_call 36; refine hnum.out.mono ?_; rintro e w5 ⟨rfl, hb5⟩; obtain ⟨m0', m1', m2'⟩ := (hl0 w5 hb5).out)
              go_ret
              refine RdRet.err (E := 11) (st := st) ?_ (by decide) rfl (HB4.out.below ?_)
              · have he : lineE (placeI (c0 :: x')) r = 11 := by
                  have hl1 : r.all isNum = false := by rw [List.all_eq_false]; exact ⟨y, HYM.out, by rw [← HBN.out]; simp⟩
                  rw [line_e (by rw [← HN2.out]; omega) ?_ (by rw [← HPK.out]; have := HKP.out; omega), hl1]
                  · rfl
                  · by_cases h1 : n2 = 1
                    · left; rw [← HN2.out]; exact h1
                    · right
                      rw [← HPK.out]
                      have := HKP.out
                      by_cases h3 : kk = 3
                      · omega
                      · exact absurd ⟨by omega, h3⟩ HBAD.out
                rw [one_bad hno.out hz0.out HSK.out.symm (by rw [he]; decide), he]
              · exact (hbl.mono (by omega)).trans (hb5.mono (by omega))
            | true =>
              have hall' : Hid ((r.take q).all isNum = true) := hall
              cases fb with
              | true =>
                go_wp2_with (first | (go_at_call 36; refine hnum.out.mono ?_; rintro e w5 ⟨rfl, hb5⟩; obtain ⟨m0', m1', m2'⟩ := (hl0 w5 hb5).out; have hown5 := ownsRow_blk hown hb5.block; have hb45 := hbl.trans (hb5.mono hB); have hB5 := Nat.le_trans hB hb5.size) | (at_builtin; refine wpList_app1 El63 rfl _ _ rfl rfl hown5 rfl rfl (by simp [Value.oneCell']) (by omega) hB5 hb45 ?_; intro v' w6 hown' hb6))
                go_roundw
                case rel => exact ⟨q + 1, by omega, by go_num, by rw [HS.out, List.map_append, List.map_cons, List.map_nil, intsV_snoc, ← HVN.out]; exact hown', ⟨_, rfl, far_on HS.out hfb⟩, (by show List.all _ _ = true; rw [HS.out, List.all_append, hall.out]; simp [← HBN.out]), hb6⟩
                case measure => simp [intOf]; omega
              | false =>
                by_cases b1 : vn < lo
                · have d1 : decide (vn < lo) = true := by simpa using b1
                  go_wp2_with (first | (go_at_call 36; refine hnum.out.mono ?_; rintro e w5 ⟨rfl, hb5⟩; obtain ⟨m0', m1', m2'⟩ := (hl0 w5 hb5).out; have hown5 := ownsRow_blk hown hb5.block; have hb45 := hbl.trans (hb5.mono hB); have hB5 := Nat.le_trans hB hb5.size) | (at_builtin; refine wpList_app1 El63 rfl _ _ rfl rfl hown5 rfl rfl (by simp [Value.oneCell']) (by omega) hB5 hb45 ?_; intro v' w6 hown' hb6))
                  go_roundw
                  case rel => exact ⟨q + 1, by omega, by go_num, by rw [HS.out, List.map_append, List.map_cons, List.map_nil, intsV_snoc, ← HVN.out]; exact hown', ⟨_, rfl, far_bad HS.out HVN.out (by rw [rng_eq hk7 hk2, ← HLO.out, ← HHI.out]; simp; omega)⟩, (by show List.all _ _ = true; rw [HS.out, List.all_append, hall.out]; simp [← HBN.out]), hb6⟩
                  case measure => simp [intOf]; omega
                have d1 : decide (vn < lo) = false := by simpa using b1
                by_cases b2 : hi < vn
                · have d2 : decide (hi < vn) = true := by simpa using b2
                  go_wp2_with (first | (go_at_call 36; refine hnum.out.mono ?_; rintro e w5 ⟨rfl, hb5⟩; obtain ⟨m0', m1', m2'⟩ := (hl0 w5 hb5).out; have hown5 := ownsRow_blk hown hb5.block; have hb45 := hbl.trans (hb5.mono hB); have hB5 := Nat.le_trans hB hb5.size) | (at_builtin; refine wpList_app1 El63 rfl _ _ rfl rfl hown5 rfl rfl (by simp [Value.oneCell']) (by omega) hB5 hb45 ?_; intro v' w6 hown' hb6))
                  go_roundw
                  case rel => exact ⟨q + 1, by omega, by go_num, by rw [HS.out, List.map_append, List.map_cons, List.map_nil, intsV_snoc, ← HVN.out]; exact hown', ⟨_, rfl, far_bad HS.out HVN.out (by rw [rng_eq hk7 hk2, ← HLO.out, ← HHI.out]; simp; omega)⟩, (by show List.all _ _ = true; rw [HS.out, List.all_append, hall.out]; simp [← HBN.out]), hb6⟩
                  case measure => simp [intOf]; omega
                have d2 : decide (hi < vn) = false := by simpa using b2
                go_wp2_with (first | (go_at_call 36; refine hnum.out.mono ?_; rintro e w5 ⟨rfl, hb5⟩; obtain ⟨m0', m1', m2'⟩ := (hl0 w5 hb5).out; have hown5 := ownsRow_blk hown hb5.block; have hb45 := hbl.trans (hb5.mono hB); have hB5 := Nat.le_trans hB hb5.size) | (at_builtin; refine wpList_app1 El63 rfl _ _ rfl rfl hown5 rfl rfl (by simp [Value.oneCell']) (by omega) hB5 hb45 ?_; intro v' w6 hown' hb6))
                go_roundw
                case rel => exact ⟨q + 1, by omega, by go_num, by rw [HS.out, List.map_append, List.map_cons, List.map_nil, intsV_snoc, ← HVN.out]; exact hown', ⟨_, rfl, far_ok HS.out HVN.out hfb (by rw [rng_eq hk7 hk2, ← HLO.out, ← HHI.out]; simp; omega)⟩, (by show List.all _ _ = true; rw [HS.out, List.all_append, hall.out]; simp [← HBN.out]), hb6⟩
                case measure => simp [intOf]; omega
          · obtain rfl : q = n2 := by omega
            have e3 : r.take q = r := List.take_of_length_le (by rw [← HN2.out]; exact Nat.le_refl _)
            rw [e3] at hown hfb hall
            have hlen : (r.map numV).length = q := by rw [List.length_map]; exact HN2.out.symm
            have HLE : Hid (lineE (placeI (c0 :: x')) r = if (r.map numV).all (rngB ((kk : Int) + 1)) then 0 else 33) := by
              show lineE _ _ = _
              rw [line_e (by rw [← HN2.out]; omega) ?_ (by rw [← HPK.out]; have := HKP.out; omega), hall.out, if_pos rfl, ← HPK.out, HKP.out]
              by_cases h1 : q = 1
              · left; rw [← HN2.out]; exact h1
              · right
                rw [← HPK.out]
                have := HKP.out
                by_cases h3 : kk = 3
                · omega
                · exact absurd ⟨by omega, h3⟩ HBAD.out
            clear e3 hall
            obtain ⟨ns, hns⟩ : ∃ ns, ns = r.map numV := ⟨_, rfl⟩
            rw [← hns] at hown hfb hlen
            have HNS := Lib.hid hns
            clear hns
            cases fb with
            | true =>
              clear hown
              go_wp2
              go_ret
              refine RdRet.err (E := 33) (st := st) ?_ (by decide) rfl (HB4.out.below (hbl.mono (by omega)))
              have he : lineE (placeI (c0 :: x')) r = 33 := by
                rw [HLE.out, ← HNS.out]
                have := hfb.out
                rw [eq_comm, Bool.not_eq_true'] at this
                rw [this]; rfl
              rw [one_bad hno.out hz0.out HSK.out.symm (by rw [he]; decide), he]
            | false =>
              obtain ⟨A', c', rfl, hc', hr'⟩ := RdP.of_own hown
              have hent := take_enters kk hk7
              have hcf : ConfAt wr cb st.c A cap := ((hbl.block cb (by have := HP.out.hcb; omega)).trans ((HKO.out cb (by omega)).trans (HK3.out cb (by omega) HP.out.ne))).trans HP2.out.conf
              have hnil : kk = 3 → (A = none ∧ cap = 0) ∧ st.c.we = [] := by
                intro h3
                have h4 : st.seen.contains 4 = false := by have := HSK.out; rw [← HPK.out, HKP.out, h3] at this; exact this.symm
                exact ⟨HP.out.nil h4, HP.out.inv.we h4⟩
              have htk := take_any kk hk7 st.c A cap cb ns A' c' wr (by omega) (by omega) (by rw [hlen]; exact hr'.news) hcf hnil (by
                rintro ad2 rfl
                obtain ⟨ad3, e3, hb3, _⟩ := hr'.2 (by omega)
                injection e3 with e3
                subst e3
                have := hb3.1
                omega)
              rw [← HTF.out] at htk hent
              rw [hlen] at htk
              have HTK := Lib.hid htk
              have l3' : wr.cell? ⟨w.heap.size + 1, kk * 5 + 3, none⟩ = some (.func (.func tf) #[] #[]) := (hbl.cell (by show w.heap.size + 1 < _; omega)).trans l3
              clear hcf hnil htk hown hr'
              go_wp2_with (go_at_fn tf; refine HTK.out.mono ?_; rintro e w7 ht; obtain rfl := ht.1)
              go_ret
              obtain ⟨_, A7, cap7, _, _, _, hbut7⟩ := id ht
              refine RdRet.good HP.out hk7 (ns := ns) ?_ (by rw [← HM.out]; exact hl) ?_ (HS3.out.block ?_) ((HB4.out.below (hbl.mono (by omega))).but hbut7) ht (by omega) rfl
              · have h0 : lineE (placeI (c0 :: x')) r = 0 := by
                  rw [HLE.out, ← HNS.out]
                  have := hfb.out
                  rw [eq_comm, Bool.not_eq_false'] at this
                  rw [this]; rfl
                rw [one_good hno.out hz0.out HSK.out.symm h0, ← HPK.out, HKP.out, lineD_take hk7 hk2, HNS.out]
              · have h := place_word hz0.out
                rw [← HPK.out, HKP.out] at h
                rw [← h]
                congr 1
              · exact (hbut7.block mb (by omega) (Ne.symm HP.out.ne)).trans ((hbl.block mb (by omega)).trans (HKO.out mb (by omega)))
end Go.Proofs.YtmmmepmjmofbjaaDoor
