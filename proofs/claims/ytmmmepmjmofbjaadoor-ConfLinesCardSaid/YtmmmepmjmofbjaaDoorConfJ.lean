/- What the library's functions lean on; conf.number. -/
import Derived.Test.YtmmmepmjmofbjaaDoorProg
import Derived.Test.YtmmmepmjmofbjaaDoorInf
import Derived.Test.YtmmmepmjmofbjaaDoorShelf
import Derived.Test.YtmmmepmjmofbjaaDoorPlainA
set_option linter.unusedVariables false
namespace Go.Proofs.YtmmmepmjmofbjaaDoor
open Go Go.RowKit

/-- the package-level variables that the library reads -/
structure Env (w : World) : Prop where
  size : 8 ≤ w.heap.size
  maxLen : ∃ m, w.cell? ⟨1, 0, none⟩ = some (.int .i64 m)
  rng : ∃ tp p, w.var? Tryd.prog "strconv.ErrRange" = some #[.iface tp p]
  pow : Lib.TabIs Tryd.prog w "internal/strconv.uint64pow10" .u64 Lib.pow10Tab
theorem var_below {P : Program} {B g : Nat} {W W' : World} {n : String} {cs : Array Value} (h : Below B W W') (hg : P.globalNamed n = some g) (hgB : g < B) (hv : W.var? P n = some cs) : W'.var? P n = some cs := by
  unfold World.var? at hv ⊢
  simp only [hg, Option.bind_some] at hv ⊢
  rw [h.block g hgB]
  exact hv
theorem Env.below {w w' : World} {B : Nat} (h : Env w) (hb : Below B w w') (hB : 8 ≤ B) : Env w' := by
  obtain ⟨m, hm⟩ := h.maxLen
  obtain ⟨tp, p, hr⟩ := h.rng
  refine ⟨Nat.le_trans h.size hb.size, ⟨m, (hb.cell (by show 1 < B; omega)).trans hm⟩, ⟨tp, p, var_below hb (g := 5) (by kernel_rfl) (by omega) hr⟩, ?_⟩
  exact var_below hb (g := 0) (by kernel_rfl) (by omega) h.pow
theorem Env.out {w w' : World} (h : Env w) (hb : Below w.heap.size w w') : Env w' := h.below hb h.size

theorem parseInt_any (s : ByteArray) (w : World) (hE : Env w) (hs : s.size ≤ 1000000) (h : isNum s.data.toList = true) :
    Calls Tryd.prog 63 #[.string s, .int .i64 10, .int .i64 64] w fun e w' => Below w.heap.size w w' ∧
      (((valN s.data.toList : Int) ≤ 9223372036854775807 ∧ e = .returned (.tuple #[.int .i64 (valN s.data.toList), .nilIface])) ∨
       (¬ (valN s.data.toList : Int) ≤ 9223372036854775807 ∧ ∃ (x : Int) (t : TypeId) (v : Value), e = .returned (.tuple #[.int .i64 x, .iface t v]))) := by
  by_cases hv : (valN s.data.toList : Int) ≤ 9223372036854775807
  · refine (Tryd.strconv_ParseInt_10_at64_ok s (by omega) _ ((parse_num h).1 hv) w).mono ?_
    rintro e w' ⟨rfl, hw⟩
    refine ⟨?_, .inl ⟨hv, rfl⟩⟩
    rcases hw with rfl | ⟨t, rfl⟩
    · exact Below.refl _ _
    · exact ⟨rfl, rfl, rfl, by rw [Lib.bytesWorld_size]; omega, fun k hk => Lib.bytesWorld_at_old _ _ _ k hk⟩
  · obtain ⟨tp, p, hr⟩ := hE.rng
    refine (Tryd.strconv_ParseInt_10_at64_range_var s (by omega) ((parse_num h).2 hv) tp p w hr).mono ?_
    rintro e w' ⟨N, rfl, _, _, hb⟩
    exact ⟨hb, .inr ⟨hv, _, _, _, rfl⟩⟩

/-- what number answers -/
def NumRet (w : World) (l : List UInt8) (e : Ending) (w' : World) : Prop := e = .returned (.tuple #[.int .i64 (numV l), .bool (isNum l)]) ∧ Below w.heap.size w w'
theorem bytesWorld_below (w : World) (e : TypeId) (s : ByteArray) : Below w.heap.size w (Lib.bytesWorld w e s) := ⟨rfl, rfl, rfl, by rw [Lib.bytesWorld_size]; omega, fun k hk => Lib.bytesWorld_at_old _ _ _ k hk⟩

theorem num_val {l : List UInt8} (h : isNum l = true) (hv : (valN l : Int) ≤ 9223372036854775807) : Ending.returned (.tuple #[.int .i64 (valN l), .bool true]) = .returned (.tuple #[.int .i64 (numV l), .bool (isNum l)]) := by
  have : numV l = valN l := by unfold numV accN; rw [if_pos h, if_pos (show (valN l : Int) ≤ lastM from hv)]
  rw [this, h]
theorem num_far {l : List UInt8} (h : isNum l = true) (hv : 9223372036854775807 < (valN l : Int)) : Ending.returned (.tuple #[.int .i64 (-1), .bool true]) = .returned (.tuple #[.int .i64 (numV l), .bool (isNum l)]) := by
  have : numV l = -1 := by unfold numV accN; rw [if_pos h, if_neg (show ¬ (valN l : Int) ≤ lastM from by unfold lastM; omega)]
  rw [this, h]

set_option maxRecDepth 100000 in
set_option maxHeartbeats 3200000 in
theorem number_any (s : ByteArray) (w : World) (hE : Env w) (hs : s.size ≤ 1000000) :
    Calls Tryd.prog 36 #[.string s] w (NumRet w s.data.toList) := by
  have hcv : ∀ V : World, (convert 9 65 (.string s)).run Tryd.prog V = .ok (.slice (some ⟨V.heap.size, 0, none⟩) s.size (grownCap V s.size 0 5)) (Lib.bytesWorld V 5 s) :=
    fun V => Lib.run_convert_string_bytes V _ _ _ s (u := .string) (by kernel_rfl) (by kernel_rfl) (by kernel_rfl)
  go_enter Tryd.func36, Tryd.ntmps36
  go_wp2
  obtain ⟨cp, hcp⟩ : ∃ cp, cp = grownCap w s.size 0 5 := ⟨_, rfl⟩
  rw [← hcp]
  clear hcp hcv
  obtain ⟨w1, hw1⟩ : ∃ w1, w1 = Lib.bytesWorld w 5 s := ⟨_, rfl⟩
  have hb1 : Below w.heap.size w w1 := by rw [hw1]; exact bytesWorld_below _ _ _
  have hcell : ∀ j, j < s.size → w1.cell? ⟨w.heap.size, j, none⟩ = some (.int .u8 (s.data.toList.getD j 0).toNat) := by rw [hw1]; exact fun j hj => Lib.bytesWorld_cell w _ s j hj
  rw [← hw1]
  clear hw1
  go_loopw [5, 11] (fun b i wr => ∃ k : Nat, k ≤ s.size ∧ i = .int .i64 k ∧ wr = w1 ∧ digB (s.data.toList.take k) = true) (fun _ i _ => s.size - (intOf i).toNat)
  case atStart => exact ⟨0, Nat.zero_le _, rfl, rfl, rfl⟩
  case round =>
    obtain ⟨k, hk, rfl, rfl, hd⟩ := hrel
    have HD := Lib.hid hd
    clear hd
    by_cases hlt : k < s.size
    · have g1 : wr.cell? ⟨w.heap.size, k, none⟩ = some (.int .u8 s[k].toNat) := by
        rw [hcell k hlt]
        have h' : k < s.data.toList.length := by rw [← size_eq]; exact hlt
        have e : s.data.toList.getD k 0 = s[k] := by rw [List.getD_eq_getElem?_getD, List.getElem?_eq_getElem h']; rfl
        rw [e]
      have HC := Lib.hid hcell
      clear hcell
      have HT := Lib.hid (isNum_step hlt)
      by_cases hdg : 48 ≤ (s[k].toNat : Int) ∧ (s[k].toNat : Int) ≤ 57
      · obtain ⟨hg1, hg2⟩ := hdg
        go_wp2
        go_roundw
        case rel => exact ⟨k + 1, by omega, by go_num, (by first | trivial | rfl), by rw [HT.out, HD.out]; simp; omega⟩
        case measure => simp [intOf]; omega
      · have HN := Lib.hid (digB_not hlt (by omega))
        by_cases hg : (s[k].toNat : Int) < 48
        all_goals
          go_wp2
          go_ret2
          exact ⟨num_no HN.out, hb1⟩
    · have hT : Hid (digB s.data.toList = true) := by
        have := HD.out
        rw [List.take_of_length_le (by rw [← size_eq]; omega)] at this
        exact this
      clear hcell
      by_cases h0 : s.size = 0
      · have he : s.toList.isEmpty = true := by rw [ByteArray.toList_eq, List.isEmpty_iff_length_eq_zero, ← size_eq]; exact h0
        have hn : isNum s.data.toList = false := by
          rw [ByteArray.toList_eq] at he
          simp [isNum, he]
        have HN := Lib.hid hn
        clear hn h0
        go_wp2
        go_ret2
        exact ⟨num_no HN.out, hb1⟩
      have hpos : 0 < s.size := by omega
      have he : s.toList.isEmpty = false := by rw [ByteArray.toList_eq, List.isEmpty_eq_false_iff_exists_mem]; exact ⟨s.data.toList[0]'(by rw [← size_eq]; exact hpos), List.getElem_mem _⟩
      have hne : Hid (¬ s.data.toList = []) := by show ¬ _; intro h; rw [ByteArray.toList_eq, h] at he; simp at he
      have hhead : Hid (s.data.toList.head? = some s[0]) := by
        show _ = _
        cases hl : s.data.toList with
        | nil => exact absurd hl hne.out
        | cons c r =>
          have : s[0] = s.data.toList[0]'(by rw [← size_eq]; exact hpos) := rfl
          rw [this]; simp [hl]
      clear h0
      by_cases hz : 1 < s.size ∧ ((s[0].toNat : Int) == 48) = true
      · obtain ⟨h1, h48⟩ := hz
        have hn : Hid (isNum s.data.toList = false) := by
          have e : s[0] = 48 := UInt8.toNat.inj (by simpa using (by rw [beq_iff_eq] at h48; omega : s[0].toNat = 48))
          show isNum _ = false
          unfold isNum
          rw [hhead.out, e, ← size_eq]
          simp [h1]
        go_wp2
        go_ret2
        exact ⟨num_no hn.out, hb1⟩
      have hnum : isNum s.data.toList = true := by
        unfold isNum
        rw [hT.out, hhead.out, ← size_eq]
        have e1 : s.data.toList.isEmpty = false := by rw [← ByteArray.toList_eq]; exact he
        rw [e1]
        by_cases h1 : 1 < s.size
        · have : ((s[0].toNat : Int) == 48) = false := by cases hb : ((s[0].toNat : Int) == 48) with
            | true => exact absurd ⟨h1, hb⟩ hz
            | false => rfl
          have h2 : ¬ s[0] = 48 := by intro h; rw [h] at this; simp at this
          simp [h2]
        · simp [h1]
      have hzc : ¬ 1 < s.size ∨ (1 < s.size ∧ ((s[0].toNat : Int) == 48) = false) := by
        by_cases h1 : 1 < s.size
        · right; refine ⟨h1, ?_⟩; cases hb : ((s[0].toNat : Int) == 48) with
          | true => exact absurd ⟨h1, hb⟩ hz
          | false => rfl
        · left; exact h1
      have HNUM := Lib.hid hnum
      clear hnum hz
      rcases hzc with h1 | ⟨h1, h48⟩
      all_goals
        go_wp2_with fail
        refine (parseInt_any s _ (hE.out hb1) hs HNUM.out).mono ?_
        rintro e w2 ⟨hb2, ⟨hv, rfl⟩ | ⟨hv, x, t, v, rfl⟩⟩
        · have HV := Lib.hid hv
          go_wp2
          go_ret2
          exact ⟨num_val HNUM.out HV.out, hb1.trans (hb2.mono hb1.size)⟩
        · have HV := Lib.hid hv
          go_wp2
          go_ret2
          exact ⟨num_far HNUM.out HV.out, hb1.trans (hb2.mono hb1.size)⟩
end Go.Proofs.YtmmmepmjmofbjaaDoor
