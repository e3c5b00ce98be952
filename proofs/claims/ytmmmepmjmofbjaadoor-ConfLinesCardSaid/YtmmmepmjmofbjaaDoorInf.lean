/- Words of the proofs of this place: a slice that reads as a list of cells, an append of one value to a slice of the call's own. No Go in sight. -/
import Derived.WalkKit
import Derived.WalkLawsBesides
import Derived.WalkSpells
import Derived.Lib.Hide
import Derived.Deep.AppendLies
import Derived.Deep.Draws
import Derived.Deep.DeepFit
import Derived.Deep.DeepMust
import Derived.Deep.LoopGhost
set_option linter.unusedVariables false
namespace Go.Proofs.YtmmmepmjmofbjaaDoor
open Go Go.RowKit

/-- a text's value -/
abbrev bs (l : List UInt8) : ByteArray := ⟨l.toArray⟩
theorem bs_toList (s : ByteArray) : bs s.data.toList = s := by cases s; simp [bs]
theorem size_eq (s : ByteArray) : s.size = s.data.toList.length := by cases s; simp [ByteArray.size]
theorem bs_size (l : List UInt8) : (bs l).size = l.length := by simp [bs, ByteArray.size]
theorem bs_data (l : List UInt8) : (bs l).data.toList = l := by simp [bs]

theorem eq_of_beq8 {a b : UInt8} (h : ((a.toNat : Int) == (b.toNat : Int)) = true) : a = b := by
  rw [beq_iff_eq] at h; exact UInt8.toNat.inj (by omega)
theorem ne_of_beq8 {a b : UInt8} (h : ((a.toNat : Int) == (b.toNat : Int)) = false) : ¬ a = b := by
  rintro rfl; simp at h
theorem extract_one (s : ByteArray) (k : Nat) (h : k < s.size) (p : List UInt8) : bs p ++ s.extract k (k + 1) = bs (p ++ [s.data.toList[k]'(by rw [← size_eq]; exact h)]) := by
  apply ByteArray.ext
  simp only [ByteArray.data_append, ByteArray.data_extract]
  apply Array.ext'
  have h' : k < s.data.toList.length := by rw [← size_eq]; exact h
  simp only [Array.toList_append, Array.toList_extract, List.extract_eq_take_drop, Nat.add_sub_cancel_left]
  rw [List.drop_eq_getElem_cons h']; simp
theorem ret_int {k : IntKind} {a b : Int} (h : a = b) : Ending.returned (.int k a) = .returned (.int k b) := by rw [h]
theorem ret_bool {a b : Bool} (h : a = b) : Ending.returned (.bool a) = .returned (.bool b) := by rw [h]
theorem ret_str {a b : ByteArray} (h : a = b) : Ending.returned (.string a) = .returned (.string b) := by rw [h]
theorem block_of_add (a : Addr) (n : Nat) : (a.add n).block = a.block := by unfold Addr.add; split <;> rfl
theorem add_of_add (a : Addr) (i j : Nat) : (a.add i).add j = a.add (i + j) := by
  unfold Addr.add
  by_cases hi : i = 0 <;> by_cases hj : j = 0 <;> simp [hi, hj, Nat.add_assoc]

/-- a slice value reads as these cells, and lies below block B -/
def Reads (w : World) (B size : Nat) (A : Option Addr) (n : Nat) (xs : List Value) : Prop :=
  xs.length = n * size ∧ (0 < n → ∃ ad, A = some ad ∧ ad.block < B ∧ ∀ j u, xs[j]? = some u → w.cell? (ad.add j) = some u)

section
variable {w w' : World} {B B' size n : Nat} {A : Option Addr} {xs : List Value}
theorem Reads.none_ : Reads w B size A 0 [] := ⟨by simp, fun h => absurd h (by omega)⟩
theorem Reads.at_ {k : Nat} (h : Reads w B 1 A n xs) (hk : k < n) : ∃ ad u, A = some ad ∧ ad.block < B ∧ xs[k]? = some u ∧ w.cell? (ad.add k) = some u := by
  obtain ⟨ad, e, hb, hc⟩ := h.2 (by omega)
  have hl : k < xs.length := by have := h.1; omega
  exact ⟨ad, xs[k], e, hb, List.getElem?_eq_getElem hl, hc k _ (List.getElem?_eq_getElem hl)⟩
theorem Reads.keep (h : Reads w B size A n xs) (hk : ∀ p : Addr, p.block < B → w'.cell? p = w.cell? p) : Reads w' B size A n xs :=
  ⟨h.1, fun hn => by
    obtain ⟨ad, e, hb, hc⟩ := h.2 hn
    exact ⟨ad, e, hb, fun j u hu => (hk _ (by rw [block_of_add]; exact hb)).trans (hc j u hu)⟩⟩
theorem Reads.more (h : Reads w B size A n xs) (hB : B ≤ B') : Reads w B' size A n xs :=
  ⟨h.1, fun hn => by
    obtain ⟨ad, e, hb, hc⟩ := h.2 hn
    exact ⟨ad, e, by omega, hc⟩⟩
theorem Reads.below (h : Reads w B size A n xs) (hb : Below B w w') : Reads w' B size A n xs := h.keep fun _ hp => hb.cell hp
theorem Reads.out (h : Reads w w.heap.size size A n xs) (hb : Below w.heap.size w w') : Reads w' w'.heap.size size A n xs := (h.below hb).more hb.size
theorem Reads.alloc (h : Reads w B size A n xs) (hB : B ≤ w.heap.size) (o : Obj) : Reads (w.alloc o) B size A n xs := h.keep fun p hp => World.cell?_alloc_lt w o p (by omega)
theorem Reads.setCell (h : Reads w B size A n xs) {p : Addr} (hB : B ≤ p.block) (u : Value) : Reads (w.setCell p u) B size A n xs :=
  h.keep fun q hq => World.cell?_setCell_other w p q u (fun e => by subst e; omega)
theorem Reads.cut (h : Reads w B size A n xs) {k cap : Nat} (hk : k ≤ n) (hc : n ≤ cap) :
    Reads w B size (if cap = k then A else A.map (·.add (k * size))) (n - k) (xs.drop (k * size)) := by
  refine ⟨by rw [List.length_drop, h.1, Nat.sub_mul], fun hn => ?_⟩
  obtain ⟨ad, rfl, hb, hcell⟩ := h.2 (by omega)
  rw [if_neg (by omega)]
  refine ⟨ad.add (k * size), rfl, by rw [block_of_add]; exact hb, fun j u hu => ?_⟩
  rw [add_of_add]
  exact hcell _ u (by rw [← hu, List.getElem?_drop])
theorem Reads.of_own {base : Nat} {e : TypeId} {v : Value} (h : w.ownsRow base e size v n xs) : ∃ A c, v = .slice A n c ∧ n ≤ c ∧ Reads w w.heap.size size A n xs := by
  rcases h.2 with ⟨rfl, rfl⟩ | ⟨g, cap, cur, rfl, hb, hg, hnc, _⟩
  · exact ⟨none, 0, rfl, Nat.le_refl _, by simpa using h.1, fun hn => absurd hn (by omega)⟩
  · refine ⟨_, _, rfl, hnc, h.1, fun hn => ⟨_, rfl, (Array.getElem?_eq_some_iff.1 hg).1, h.cells (g := g) rfl⟩⟩
end

/-- 's[k:]' -/
theorem run_slice_tail {P : Program} {t e : TypeId} {size : Nat} (ht : P.underlying t = some (.slice e)) (hz : ∀ w, (Go.sizeOf e).run P w = .ok size w) (A : Option Addr) (n c k : Nat) (hk : k ≤ n) (V : World) :
    (Instr.slice t (.slice A n c) (some (.int .i64 (k : Int))) none none).run P V = .ok (.slice (if c = k then A else A.map (·.add (k * size))) (n - k) (c - k)) V := by
  simp [Instr.slice, run_underlying ht, Instr.sliceBounds, hz, run_sliceBound, hk]
theorem _root_.Go.RowKit.Below.drewN {B : Nat} {a w : World} (h : Below B a w) (n : Nat) : Below B a (w.drewN n) := ⟨h.os, h.tape, h.output, h.size, h.block⟩
/-- a slice value reads as these cells, and lies in a block of which p holds -/
def RdP (w : World) (p : Nat → Prop) (size : Nat) (A : Option Addr) (n : Nat) (xs : List Value) : Prop :=
  xs.length = n * size ∧ (0 < n → ∃ ad, A = some ad ∧ p ad.block ∧ ∀ j u, xs[j]? = some u → w.cell? (ad.add j) = some u)
/-- where p holds, or from H on -/
def OutP (p : Nat → Prop) (H : Nat) (w : World) (b : Nat) : Prop := (p b ∨ H ≤ b) ∧ b < w.heap.size
/-- from H on -/
def NewP (H : Nat) (w : World) (b : Nat) : Prop := H ≤ b ∧ b < w.heap.size
section
variable {w w' : World} {p p' : Nat → Prop} {B H size n : Nat} {A : Option Addr} {xs : List Value}
theorem Reads.toP (h : Reads w B size A n xs) (hp : ∀ b, b < B → p b) : RdP w p size A n xs :=
  ⟨h.1, fun hn => by obtain ⟨ad, e, hb, hc⟩ := h.2 hn; exact ⟨ad, e, hp _ hb, hc⟩⟩
theorem RdP.toReads (h : RdP w p size A n xs) (hp : ∀ b, p b → b < B) : Reads w B size A n xs :=
  ⟨h.1, fun hn => by obtain ⟨ad, e, hb, hc⟩ := h.2 hn; exact ⟨ad, e, hp _ hb, hc⟩⟩
theorem RdP.keep (h : RdP w p size A n xs) (hk : ∀ b, p b → w'.heap[b]? = w.heap[b]?) (hp : ∀ b, p b → p' b) : RdP w' p' size A n xs :=
  ⟨h.1, fun hn => by
    obtain ⟨ad, e, hb, hc⟩ := h.2 hn
    exact ⟨ad, e, hp _ hb, fun j u hu => (World.cell?_of_block (by rw [block_of_add]; exact hk _ hb)).trans (hc j u hu)⟩⟩
theorem RdP.mono (h : RdP w p size A n xs) (hp : ∀ b, p b → p' b) : RdP w p' size A n xs := h.keep (fun _ _ => rfl) hp
theorem RdP.of_own {base : Nat} {e : TypeId} {v : Value} (h : w.ownsRow base e size v n xs) : ∃ A c, v = .slice A n c ∧ n ≤ c ∧ RdP w (NewP base w) size A n xs := by
  rcases h.2 with ⟨rfl, rfl⟩ | ⟨g, cap, cur, rfl, hb, hg, hnc, _⟩
  · exact ⟨none, 0, rfl, Nat.le_refl _, by simpa using h.1, fun hn => absurd hn (by omega)⟩
  · refine ⟨_, _, rfl, hnc, h.1, fun hn => ⟨_, rfl, ⟨hb, (Array.getElem?_eq_some_iff.1 hg).1⟩, h.cells (g := g) rfl⟩⟩
theorem RdP.out (h : RdP w (OutP p H w) size A n xs) : Reads w w.heap.size size A n xs := h.toReads fun _ hb => hb.2
theorem RdP.news (h : RdP w (NewP H w) size A n xs) : Reads w w.heap.size size A n xs := h.toReads fun _ hb => hb.2
theorem RdP.outNew (h : RdP w (NewP H w) size A n xs) : RdP w (OutP p H w) size A n xs := h.mono fun _ hb => ⟨.inr hb.1, hb.2⟩
/-- a store elsewhere -/
theorem RdP.setCell (h : RdP w p size A n xs) {a : Addr} (ha : ¬ p a.block) (u : Value) : RdP (w.setCell a u) p size A n xs :=
  h.keep (fun b hb => Below.heap_setCell w a u b (by rintro rfl; exact ha hb)) fun _ hb => hb
end
theorem OutP_setCell {p : Nat → Prop} {H : Nat} {w : World} {a : Addr} {u : Value} {b : Nat} : OutP p H (w.setCell a u) b ↔ OutP p H w b := by simp [OutP, World.setCell]
/-- numbers, texts as cells -/
def intsV (l : List Int) : List Value := l.map (Value.int .i64)
theorem intsV_snoc (l : List Int) (x : Int) : intsV (l ++ [x]) = intsV l ++ [.int .i64 x] := by simp [intsV]
theorem intsV_len (l : List Int) : (intsV l).length = l.length := by simp [intsV]
theorem intsV_get {l : List Int} {k : Nat} (h : k < l.length) : (intsV l)[k]? = some (.int .i64 l[k]) := by simp [intsV, h]
def strsV (l : List (List UInt8)) : List Value := l.map fun x => Value.string (bs x)
theorem strsV_snoc (l : List (List UInt8)) (x : List UInt8) : strsV (l ++ [x]) = strsV l ++ [.string (bs x)] := by simp [strsV]
theorem strsV_len (l : List (List UInt8)) : (strsV l).length = l.length := by simp [strsV]
theorem strsV_get {l : List (List UInt8)} {k : Nat} (h : k < l.length) : (strsV l)[k]? = some (.string (bs l[k])) := by simp [strsV, h]
def byteV (l : List UInt8) : List Value := l.map fun b => Value.int .u8 b.toNat
theorem fold_push (l : List UInt8) : ∀ s : ByteArray, (l.map fun b => (b.toNat : Int)).foldl (fun r (n : Int) => r.push (UInt8.ofNat n.toNat)) s = s ++ bs l := by
  induction l with
  | nil => intro s; apply ByteArray.ext; simp [bs]
  | cons c r ih =>
    intro s
    simp only [List.map_cons, List.foldl_cons, ih, Int.toNat_natCast, UInt8.ofNat_toNat]
    apply ByteArray.ext
    apply Array.ext'
    simp [ByteArray.data_append]
theorem conv_bytes {P : Program} {w : World} {src dst e : TypeId} (hs : P.underlying src = some (.slice e)) (he : P.underlying e = some (.int .u8)) (hd : P.underlying dst = some .string)
    {B : Nat} {A : Option Addr} {n : Nat} {l : List UInt8} (h : Reads w B 1 A n (byteV l)) (c : Nat) : (convert src dst (.slice A n c)).run P w = .ok (.string (bs l)) w := by
  rw [run_convert_bytes_string w src dst e A n c hs he hd]
  have hn : l.length = n := by have := h.1; simpa [byteV] using this
  rcases Nat.eq_zero_or_pos n with h0 | h0
  · subst h0
    have hl : l = [] := List.eq_nil_of_length_eq_zero hn
    subst hl
    cases A with
    | none => rfl
    | some ad => exact (run_bytesToString w ad 0 c [] (run_loadCells_list w ad [] (by intro j v hj; simp at hj))).trans rfl
  · obtain ⟨ad, rfl, hb, hc⟩ := h.2 h0
    have e1 : byteV l = (l.map fun b => (b.toNat : Int)).map (Value.int .u8) := by simp [byteV]
    have hl := run_loadCells_list (P := P) w ad (byteV l) hc
    rw [show (byteV l).length = n from by simp [byteV, hn]] at hl
    rw [e1] at hl
    rw [run_bytesToString w ad n c _ hl, fold_push]
    congr 2
theorem conv_byte1 {P : Program} {src dst e : TypeId} (hs : P.underlying src = some (.slice e)) (he : P.underlying e = some (.int .u8)) (hd : P.underlying dst = some .string)
    (w : World) (x : Int) (h0 : 0 ≤ x) (h1 : x ≤ 255) (c : Nat) :
    (convert src dst (.slice (some ⟨w.heap.size, 0, none⟩) 1 c)).run P (w.alloc (.cells #[.int .u8 x] e)) = .ok (.string (bs [UInt8.ofNat x.toNat])) (w.alloc (.cells #[.int .u8 x] e)) := by
  refine conv_bytes hs he hd (B := w.heap.size + 1) ⟨by simp [byteV], fun _ => ⟨_, rfl, Nat.lt_succ_self _, ?_⟩⟩ c
  intro j u hu
  match j, hu with
  | 0, hu =>
    simp only [byteV, List.map_cons, List.getElem?_cons_zero, Option.some.injEq] at hu
    subst hu
    have : ((UInt8.ofNat x.toNat).toNat : Int) = x := by simp [UInt8.toNat_ofNat']; omega
    rw [this]
    show (w.alloc _).cell? ⟨w.heap.size, 0, none⟩ = _
    rw [cell_of_row _ w.heap.size 0 _ e (0, 0) (heap_alloc_new w _)]
    rfl
/-- what the program's table says of a slice type and its elements' type -/
structure El (P : Program) (t e : TypeId) (z : Value) (size bytes : Nat) : Prop where
  ht : P.underlying t = some (.slice e)
  hi : (P.info? e).map (fun i => (i.zero, i.size, i.bytes)) = some (some z, size, bytes)
  hzs : z.cells.size = size
  hsz : 0 < size
  hby : bytes ≤ 4096

section
variable {P : Program} {w w0 : World}

/-- 'append(v, x)' of one element that was just built, v a slice of the call's own -/
theorem wpList_app1 {t e : TypeId} {z : Value} {size bytes : Nat} (I : El P t e z size bytes) {ops : Array Oper} {rest : List Oper} {o : Oper} {a : Act} {Q : Exit → Act → World → Prop} (hgd : o.guard = none) (s x : Operand)
    (ho : o.op = .call { callee := .builtin .append, args := #[s, x], argTypes := #[t, t] })
    {B : Nat} {v : Value} {n : Nat} {xs : List Value} (hs : a.eval s = v) (hown : w.ownsRow B e size v n xs) {cs : Array Value} (hx : a.eval x = .slice (some ⟨w.heap.size, 0, none⟩) 1 1)
    (hcs : cs.size = size) (h1 : ∀ u ∈ cs.toList, u.oneCell' = true) (hn : n ≤ 2147483648) (hB : B ≤ w.heap.size) (hbel : Below B w0 w)
    (h : ∀ v' w', w'.ownsRow B e size v' (n + 1) (xs ++ cs.toList) → Below B w0 w' → wpList P ops Q rest (a.put o.dst v') w') : wpList P ops Q (o :: rest) a (w.alloc (.cells cs e)) := by
  obtain ⟨i, hi, hz, hsize, hb⟩ := info_parts I.hi
  refine wpList_append_own (P := P) _ hgd s x t ho B e i z size bytes I.ht hi hz hsize hb I.hzs I.hsz v n xs hs (hown.alloc _) ⟨w.heap.size, 0, none⟩ 1 1 cs.toList hx (by simp [hcs]) ?_ h1
    (by unfold maxLen; omega) ?_ (by simp; omega) ?_
  · intro j u hu
    have e1 : (⟨w.heap.size, 0, none⟩ : Addr).add j = ⟨w.heap.size, j, none⟩ := by unfold Addr.add; split <;> simp_all
    rw [e1, cell_of_row _ w.heap.size j cs e (0, 0) (heap_alloc_new w _)]
    simpa using hu
  · have := Nat.mul_le_mul (show n + 1 ≤ 2147483649 by omega) I.hby
    omega
  · intro v' w' ho' hg _
    refine h v' w' ho' ((hbel.alloc hB _).grown hg (by simp; omega) fun k hk => (hown.lt k hk).1)
end
end Go.Proofs.YtmmmepmjmofbjaaDoor
