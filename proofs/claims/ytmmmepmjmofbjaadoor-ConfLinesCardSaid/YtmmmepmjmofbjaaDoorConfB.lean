/- Numbers and words of lookoutref17. -/
import Derived.Test.YtmmmepmjmofbjaaDoorProg
import Derived.Test.YtmmmepmjmofbjaaDoorInf
import Derived.Test.YtmmmepmjmofbjaaDoorSplitA
set_option linter.unusedVariables false
namespace Go.Proofs.YtmmmepmjmofbjaaDoor
open Go Go.RowKit

/-- the value of digits by 10 -/
def valN (l : List UInt8) : Nat := l.foldl (fun n c => n * 10 + (c.toNat - 48)) 0
def digB (l : List UInt8) : Bool := l.all fun c => 48 ≤ c.toNat && c.toNat ≤ 57
def lastM : Int := 9223372036854775807
/-- a number's value, -1 if it is above the last moment -/
def accN (l : List UInt8) : Int := if (valN l : Int) ≤ lastM then valN l else -1
/-- is a text a number -/
def isNum (l : List UInt8) : Bool := digB l && !l.isEmpty && !(decide (1 < l.length) && l.head? == some 48)
def numV (l : List UInt8) : Int := if isNum l then accN l else 0

theorem valN_snoc (l : List UInt8) (c : UInt8) : valN (l ++ [c]) = valN l * 10 + (c.toNat - 48) := by simp [valN]
theorem accN_bd (l : List UInt8) : -1 ≤ accN l ∧ accN l ≤ 9223372036854775807 := by unfold accN lastM; split <;> omega
theorem digB_snoc (l : List UInt8) (c : UInt8) : digB (l ++ [c]) = (digB l && (48 ≤ c.toNat && c.toNat ≤ 57)) := by simp [digB]
/-- one digit more -/
def accStep (n d : Int) : Int := let m := if 0 ≤ n ∧ (9223372036854775807 - d) / 10 < n then -1 else n; if 0 ≤ m then m * 10 + d else m
theorem accStep_eq (v d : Int) (hv : 0 ≤ v) (h0 : 0 ≤ d) (h9 : d ≤ 9) :
    (if v * 10 + d ≤ 9223372036854775807 then v * 10 + d else -1) = accStep (if v ≤ 9223372036854775807 then v else -1) d := by
  unfold accStep
  by_cases h1 : v ≤ 9223372036854775807
  · rw [if_pos h1]
    by_cases h2 : v * 10 + d ≤ 9223372036854775807
    · have h3 : ¬ ((9223372036854775807 - d) / 10 < v) := by omega
      simp [h2, h3, hv]
    · have h3 : (9223372036854775807 - d) / 10 < v := by omega
      simp [h2, h3, hv]
  · rw [if_neg h1, if_neg (by omega)]
    simp
theorem accN_snoc (l : List UInt8) (c : UInt8) (h : 48 ≤ c.toNat) (h' : c.toNat ≤ 57) : accN (l ++ [c]) = accStep (accN l) ((c.toNat : Int) - 48) := by
  unfold accN lastM
  rw [valN_snoc]
  have : ((valN l * 10 + (c.toNat - 48) : Nat) : Int) = (valN l : Int) * 10 + ((c.toNat : Int) - 48) := by omega
  rw [this]
  exact accStep_eq _ _ (by omega) (by omega) (by omega)

theorem isNum_step {s : ByteArray} {k : Nat} (h : k < s.size) : digB (s.data.toList.take (k + 1)) = (digB (s.data.toList.take k) && (48 ≤ s[k].toNat && s[k].toNat ≤ 57)) := by
  have h' : k < s.data.toList.length := by rw [← size_eq]; exact h
  rw [List.take_succ_eq_append_getElem h', digB_snoc]; rfl
theorem accN_step {s : ByteArray} {k : Nat} (h : k < s.size) (h1 : 48 ≤ (s[k].toNat : Int)) (h2 : (s[k].toNat : Int) ≤ 57) : accN (s.data.toList.take (k + 1)) = accStep (accN (s.data.toList.take k)) ((s[k].toNat : Int) - 48) := by
  have h' : k < s.data.toList.length := by rw [← size_eq]; exact h
  have e : s.data.toList[k] = s[k] := rfl
  rw [List.take_succ_eq_append_getElem h', accN_snoc _ _ (by rw [e]; omega) (by rw [e]; omega), e]
theorem digB_not {s : ByteArray} {k : Nat} (h : k < s.size) (h1 : (s[k].toNat : Int) < 48 ∨ 57 < (s[k].toNat : Int)) : isNum s.data.toList = false := by
  have h' : k < s.data.toList.length := by rw [← size_eq]; exact h
  have : digB s.data.toList = false := by
    unfold digB
    rw [List.all_eq_false]
    refine ⟨s.data.toList[k], List.getElem_mem h', ?_⟩
    have e : s.data.toList[k] = s[k] := rfl
    rw [e]
    simp; omega
  simp [isNum, this]
theorem num_no {s : ByteArray} (h : isNum s.data.toList = false) : Ending.returned (.tuple #[.int .i64 0, .bool false]) = .returned (.tuple #[.int .i64 (numV s.data.toList), .bool (isNum s.data.toList)]) := by
  simp [numV, h]
theorem num_yes {s : ByteArray} {k : Nat} (hk : ¬ k < s.size) (hk' : k ≤ s.size) (hd : digB (s.data.toList.take k) = true) (h0 : ¬ s.toList = []) (hz : ¬ (1 < s.size ∧ s.data.toList.head? = some 48)) :
    Ending.returned (.tuple #[.int .i64 (accN (s.data.toList.take k)), .bool true]) = .returned (.tuple #[.int .i64 (numV s.data.toList), .bool (isNum s.data.toList)]) := by
  have e : s.data.toList.take k = s.data.toList := List.take_of_length_le (by rw [← size_eq]; omega)
  rw [e] at hd ⊢
  rw [ByteArray.toList_eq] at h0
  have hn : isNum s.data.toList = true := by
    unfold isNum
    rw [hd]
    cases hl : s.data.toList with
    | nil => exact absurd hl h0
    | cons c r =>
      rw [size_eq, hl] at hz
      simp only [List.isEmpty_cons, Bool.not_false, Bool.true_and, List.head?_cons, Bool.not_eq_true', Bool.and_eq_false_iff, decide_eq_false_iff_not]
      by_cases h1 : 1 < (c :: r).length
      · right; simp at hz ⊢; exact hz (by simpa using h1)
      · left; exact h1
  simp [numV, hn]

set_option maxHeartbeats 1600000 in
theorem Number_any (s : ByteArray) (w : World) (hs : s.size ≤ 1000000) :
    Calls Tryd.prog 39 #[.string s] w fun e w' => e = .returned (.tuple #[.int .i64 (numV s.data.toList), .bool (isNum s.data.toList)]) ∧ w = w' := by
  by_cases h0 : s.size = 0
  · have he : s.toList.isEmpty = true := by rw [ByteArray.toList_eq, List.isEmpty_iff_length_eq_zero, ← size_eq]; exact h0
    have hn : isNum s.data.toList = false := by
      rw [ByteArray.toList_eq] at he
      simp [isNum, he]
    have HN := Lib.hid hn
    clear hn h0
    go_enter Tryd.func39, Tryd.ntmps39
    go_wp2
    go_ret2
    exact ⟨num_no HN.out, rfl⟩
  have hpos : 0 < s.size := by omega
  have he : s.toList.isEmpty = false := by rw [ByteArray.toList_eq, List.isEmpty_eq_false_iff_exists_mem]; exact ⟨s.data.toList[0]'(by rw [← size_eq]; exact hpos), List.getElem_mem _⟩
  have hne : ¬ s.toList = [] := by intro h; rw [h] at he; simp at he
  have hhead : s.data.toList.head? = some s[0] := by
    cases hl : s.data.toList with
    | nil => rw [ByteArray.toList_eq] at hne; exact absurd hl hne
    | cons c r =>
      have : s[0] = s.data.toList[0]'(by rw [← size_eq]; exact hpos) := rfl
      rw [this]; simp [hl]
  have HH := Lib.hid hhead
  clear hhead h0
  by_cases hz : 1 < s.size ∧ ((s[0].toNat : Int) == 48) = true
  · obtain ⟨h1, h48⟩ := hz
    have hn : isNum s.data.toList = false := by
      have e : s[0] = 48 := UInt8.toNat.inj (by simpa using (by rw [beq_iff_eq] at h48; omega : s[0].toNat = 48))
      unfold isNum
      rw [HH.out, e, ← size_eq]
      simp [h1]
    have HN := Lib.hid hn
    clear hn
    go_enter Tryd.func39, Tryd.ntmps39
    go_wp2
    go_ret2
    exact ⟨num_no HN.out, rfl⟩
  have hzz : ¬ (1 < s.size ∧ s.data.toList.head? = some 48) := by
    rintro ⟨h1, h2⟩
    rw [HH.out] at h2
    injection h2 with h2
    exact hz ⟨h1, by rw [h2]; rfl⟩
  have hzc : ¬ 1 < s.size ∨ (1 < s.size ∧ ((s[0].toNat : Int) == 48) = false) := by
    by_cases h1 : 1 < s.size
    · right; refine ⟨h1, ?_⟩; cases hb : ((s[0].toNat : Int) == 48) with
      | true => exact absurd ⟨h1, hb⟩ hz
      | false => rfl
    · left; exact h1
  have HZ := Lib.hid hzz
  clear hz hzz
  rcases hzc with h1 | ⟨h1, h48⟩
  all_goals
    go_enter Tryd.func39, Tryd.ntmps39
    go_wp2
    go_loop [4, 5, 6] (fun n i d => ∃ k : Nat, k ≤ s.size ∧ i = .int .i64 k ∧ n = .int .i64 (accN (s.data.toList.take k)) ∧ digB (s.data.toList.take k) = true)
      (fun _ i _ => s.size - (intOf i).toNat)
    case atStart => exact ⟨0, Nat.zero_le _, rfl, rfl, rfl⟩
    case round =>
      obtain ⟨k, hk, rfl, rfl, hd⟩ := hrel
      obtain ⟨m, hm⟩ : ∃ m, accN (s.data.toList.take k) = m := ⟨_, rfl⟩
      have HD := Lib.hid hd
      clear hd
      have hb := accN_bd (s.data.toList.take k)
      rw [hm] at hb ⊢
      have HM := Lib.hid hm
      clear hm
      obtain ⟨hb1, hb2⟩ := hb
      by_cases hlt : k < s.size
      · by_cases hdg : 48 ≤ (s[k].toNat : Int) ∧ (s[k].toNat : Int) ≤ 57
        · obtain ⟨hg1, hg2⟩ := hdg
          have HA := Lib.hid (accN_step hlt hg1 hg2)
          have HT := Lib.hid (isNum_step hlt)
          by_cases hm0 : 0 ≤ m
          · by_cases hov : (9223372036854775807 - ((s[k].toNat : Int) - 48)) / 10 < m
            all_goals
              go_wp2
              go_round
              case rel => exact ⟨k + 1, by omega, by go_num, by rw [HA.out, HM.out]; simp [accStep, hm0, hov], by rw [HT.out, HD.out]; simp; omega⟩
              case measure => simp [intOf]; omega
          · go_wp2
            go_round
            case rel => exact ⟨k + 1, by omega, by go_num, by rw [HA.out, HM.out]; simp [accStep, hm0], by rw [HT.out, HD.out]; simp; omega⟩
            case measure => simp [intOf]; omega
        · have HN := Lib.hid (digB_not hlt (by omega))
          by_cases hg : (s[k].toNat : Int) < 48
          all_goals
            go_wp2
            go_ret2
            exact ⟨num_no HN.out, rfl⟩
      · go_wp2
        go_ret2
        exact ⟨by rw [← HM.out]; exact num_yes hlt hk HD.out hne HZ.out, rfl⟩
end Go.Proofs.YtmmmepmjmofbjaaDoor
