/- conf.Check. -/
import Derived.Test.YtmmmepmjmofbjaaDoorProg
import Derived.Test.YtmmmepmjmofbjaaDoorInf
import Derived.Test.YtmmmepmjmofbjaaDoorConfG
import Derived.Test.YtmmmepmjmofbjaaDoorConfL
import Derived.Test.YtmmmepmjmofbjaaDoorConfM
import Derived.Laws.EntriesVeiled
set_option linter.unusedVariables false
namespace Go.Proofs.YtmmmepmjmofbjaaDoor
open Go Go.RowKit

def rngK (k : Nat) (x : Int) : Bool := decide (setLo.getD k 0 ≤ x) && decide (x ≤ setHi.getD k 0)
def tellOk (c : Cf) (k : Nat) : Bool := (tellL c k).all (rngK k)
theorem check_bad {c : Cf} {k : Nat} (hk : k < 7) (h : tellOk c k = false) (ht : c.ti ≤ 9223372036854775807) (hp : c.pa ≤ 9223372036854775807) : checkE c = 33 := by
  obtain ⟨so, ro, ol, we, qu, ti, pa⟩ := c
  simp only at ht hp
  match k, hk with
  | 0, _ => apply checkE_bad; simp [tellOk, tellL, rngK, setLo, setHi] at h; simp [fieldsOk]; omega
  | 1, _ => apply checkE_bad; simp [tellOk, tellL, rngK, setLo, setHi] at h; simp [fieldsOk]; omega
  | 2, _ => cases ol <;> simp [tellOk, tellL, rngK, setLo, setHi] at h
  | 3, _ =>
    have hw : we.all wOk = false := h
    simp [checkE, hw]
  | 4, _ => apply checkE_bad; simp [tellOk, tellL, rngK, setLo, setHi] at h; simp [fieldsOk]; omega
  | 5, _ => apply checkE_bad; simp [tellOk, tellL, rngK, setLo, setHi] at h; simp [fieldsOk]; omega
  | 6, _ => apply checkE_bad; simp [tellOk, tellL, rngK, setLo, setHi] at h; simp [fieldsOk]; omega
theorem check_all {c : Cf} (h : ∀ k, k < 7 → tellOk c k = true) : checkE c = if (c.we.length : Int) = c.so then 0 else 34 := by
  obtain ⟨so, ro, ol, we, qu, ti, pa⟩ := c
  have h0 := h 0 (by decide)
  have h1 := h 1 (by decide)
  have h3 : we.all wOk = true := h 3 (by decide)
  have h4 := h 4 (by decide)
  have h5 := h 5 (by decide)
  have h6 := h 6 (by decide)
  simp [tellOk, tellL, rngK, setLo, setHi] at h0 h1 h4 h5 h6
  refine checkE_ok ?_ h3
  simp [fieldsOk]; omega

set_option maxRecDepth 100000 in
set_option maxHeartbeats 3200000 in
theorem ConfCheck_any (c : Cf) (A : Option Addr) (cap : Nat) (w : World) (hl : c.we.length ≤ 1000000) (hR : Reads w w.heap.size 1 A c.we.length (intsV c.we)) (ht : c.ti ≤ 9223372036854775807) (hp : c.pa ≤ 9223372036854775807) :
    Calls Tryd.prog 13 #[c.v A cap] w fun e w' => e = .returned (.int .i64 (checkE c)) ∧ Below w.heap.size w w' := by
  obtain ⟨r, hr⟩ : ∃ r, r = checkE c := ⟨_, rfl⟩
  rw [← hr]
  have HBAD : Hid (∀ k, k < 7 → tellOk c k = false → r = 33) := fun k hk h => hr.trans (check_bad hk h ht hp)
  have HALL : Hid ((∀ k, k < 7 → tellOk c k = true) → r = if (c.we.length : Int) = c.so then 0 else 34) := fun h => hr.trans (check_all h)
  clear hr ht hp
  have HT : Hid (∀ (k : Nat) (V : World), k < 7 → Below w.heap.size w V → Calls Tryd.prog (tellF.getD k 0) #[c.v A cap] V (TellRet V (tellL c k))) := fun k V hk hV => tell_any k hk c A cap V hl (hR.out hV)
  clear hR
  obtain ⟨n, hn⟩ : ∃ n, n = c.we.length := ⟨_, rfl⟩
  rw [← hn] at HALL hl
  have e0 : c.v A cap = cfv c.so c.ro c.ol A n cap c.qu c.ti c.pa := by rw [hn]
  rw [e0] at HT ⊢
  have hlen : ∀ k, k < 7 → Hid ((tellL c k).length ≤ 1000000) := by
    intro k hk
    match k, hk with
    | 0, _ | 1, _ | 2, _ | 4, _ | 5, _ | 6, _ => show [_].length ≤ _; simp
    | 3, _ => show c.we.length ≤ _; rw [← hn]; exact hl
  obtain ⟨TL, hTL⟩ : ∃ TL, TL = tellL c := ⟨_, rfl⟩
  have HOK : Hid (∀ k, tellOk c k = (TL k).all (rngK k)) := by intro k; rw [hTL]; rfl
  rw [← hTL] at hlen
  have HT2 : Hid (∀ (k : Nat) (V : World), k < 7 → Below w.heap.size w V → Calls Tryd.prog (tellF.getD k 0) #[cfv c.so c.ro c.ol A n cap c.qu c.ti c.pa] V (TellRet V (TL k))) := by rw [hTL]; exact HT.out
  clear hTL HT e0 hn
  obtain ⟨so, ro, ol, we, qu, ti, pa⟩ := c
  simp only at HALL HT2 ⊢
  have HLEN := Lib.hid hlen
  clear hlen
  go_enter Tryd.func13, Tryd.ntmps13
  go_wp2_with (go_at_call 27; refine (settings_any _).mono ?_; rintro e w2 ⟨rfl, rfl⟩)
  go_loopw [4, 6, 9] (fun _ _ i wr => ∃ k : Nat, k ≤ 7 ∧ i = .int .i64 k ∧ Hid (∀ j, j < k → tellOk ⟨so, ro, ol, we, qu, ti, pa⟩ j = true) ∧
     Below (w.heap.size + 2) ((w.alloc (.cells #[.int .i64 so, .int .i64 ro, .bool ol, .slice A n cap, .int .i64 qu, .int .i64 ti, .int .i64 pa] 25)).alloc (.cells setCells 62)) wr) (fun _ _ i _ => 7 - (intOf i).toNat)
  case atStart => exact ⟨0, by omega, rfl, fun j hj => absurd hj (Nat.not_lt_zero _), Below.refl _ _⟩
  case round =>
    obtain ⟨wo, rfl⟩ : ∃ wo : World, wo = wr := ⟨_, rfl⟩
    obtain ⟨k, hk, rfl, hok, hbl⟩ := hrel
    have hB := hbl.size
    have hB' : w.heap.size + 2 ≤ wo.heap.size := by simpa using hB
    clear hB
    have hbw : Below w.heap.size w wo := Below.trans (((Below.refl _ _).alloc (Nat.le_refl _) _).alloc (by simp) _) (hbl.mono (by omega))
    have q0 : wo.heap[w.heap.size]? = some (.cells #[.int .i64 so, .int .i64 ro, .bool ol, .slice A n cap, .int .i64 qu, .int .i64 ti, .int .i64 pa] 25 (0, 0)) := by
      rw [hbl.block _ (by omega), Below.heap_alloc _ _ _ (by simp)]; exact heap_alloc_new w _
    have q1 : wo.heap[w.heap.size + 1]? = some (.cells setCells 62 (0, 0)) := by
      rw [hbl.block _ (by omega)]
      have := heap_alloc_new (w.alloc (.cells #[.int .i64 so, .int .i64 ro, .bool ol, .slice A n cap, .int .i64 qu, .int .i64 ti, .int .i64 pa] 25)) (.cells setCells 62)
      simpa using this
    have f0 := fun i => cell_of_row wo w.heap.size i _ _ _ q0
    by_cases hlt : k < 7
    · obtain ⟨l0, l1, l2, l3, l4⟩ := set_five q1 hlt (setRow_eq k)
      have hent := tell_enters k hlt
      have HTK := Lib.hid (fun V (hV : Below w.heap.size w V) => HT2.out k V hlt hV)
      have hok' := HOK.out k
      unfold rngK at hok'
      have hll := (HLEN.out k hlt).out
      obtain ⟨lo, hlo⟩ : ∃ lo, lo = setLo.getD k 0 := ⟨_, rfl⟩
      obtain ⟨hi, hhi⟩ : ∃ hi, hi = setHi.getD k 0 := ⟨_, rfl⟩
      obtain ⟨tf, htf⟩ : ∃ tf, tf = tellF.getD k 0 := ⟨_, rfl⟩
      rw [← htf] at l4 hent HTK
      rw [← hlo] at l1 hok'
      rw [← hhi] at l2 hok'
      generalize words7.getD k [] = y7 at l0
      generalize takeF.getD k 0 = tk at l3
      obtain ⟨T, hT⟩ : ∃ T, T = TL k := ⟨_, rfl⟩
      rw [← hT] at hok' hll HTK
      have HOK' := Lib.hid hok'
      clear hlo hhi htf hT hok'
      have fa : ∀ o i, (wo.alloc o).cell? ⟨w.heap.size, i, none⟩ = _ := fun o i => (World.cell?_alloc_lt wo o ⟨w.heap.size, i, none⟩ (by show w.heap.size < _; omega)).trans (f0 i)
      go_wp2_with (go_at_fn tf; refine (HTK.out _ ?_).mono ?_)
      · exact hbw.trans (by repeat (first | (with_reducible assumption) | (with_reducible exact Below.refl _ _) | (with_reducible refine Below.drewN ?_ _) | (with_reducible refine Below.drew ?_) | (with_reducible refine Below.setCell ?_ (by first | omega | (simp; done) | (simp; omega) | (simp [World.setCell]; done) | (simp [World.setCell]; omega)) _) | (with_reducible refine Below.alloc ?_ (by first | omega | (simp; done) | (simp; omega) | (simp [World.setCell]; done) | (simp [World.setCell]; omega)) _)))
      rintro e w3 ⟨A3, c3, rfl, hr3, hb3, _⟩
      have v3 := (hb3.block wo.heap.size (by simp)).trans (heap_alloc_new wo _)
      have g3 := fun i => cell_of_row w3 wo.heap.size i _ _ _ v3
      have hbo3 : Below (w.heap.size + 2) wo w3 := Below.trans ((Below.refl _ _).alloc hB' _) (hb3.mono (by simp; omega))
      have hs3 : wo.heap.size + 1 ≤ w3.heap.size := by have := hb3.size; simpa using this
      obtain ⟨nt, hnt⟩ : ∃ nt, nt = T.length := ⟨_, rfl⟩
      rw [← hnt] at hr3 hll ⊢
      have HNT := Lib.hid hnt
      have hr4 := hr3.2
      clear v3 hb3 hnt hr3 fa l0 l1 l2 l3 l4 f0 q0 q1 hent
      go_wp2
      go_loopw [6, 18] (fun _ i wr => ∃ q : Nat, q ≤ nt ∧ i = .int .i64 q ∧ wr = w3 ∧ Hid ((T.take q).all (fun x => decide (lo ≤ x) && decide (x ≤ hi)) = true)) (fun _ i _ => nt - (intOf i).toNat)
      case atStart => exact ⟨0, Nat.zero_le _, rfl, rfl, rfl⟩
      case round =>
        obtain ⟨q, hq, rfl, rfl, hall⟩ := hrel
        by_cases hltq : q < nt
        · have hx : q < T.length := by rw [← HNT.out]; exact hltq
          obtain ⟨ad, rfl, hab, hac⟩ := hr4 (by omega)
          obtain ⟨y, hy⟩ : ∃ y, y = T[q] := ⟨_, rfl⟩
          have g1 : wr.cell? (ad.add q) = some (.int .i64 y) := by rw [hy]; exact hac q _ (intsV_get hx)
          have HS := Lib.hid (show T.take (q + 1) = T.take q ++ [y] by rw [hy]; exact List.take_succ_eq_append_getElem hx)
          have HYM := Lib.hid (show y ∈ T by rw [hy]; exact List.getElem_mem hx)
          have HBK : Hid ((decide (lo ≤ y) && decide (y ≤ hi)) = false → r = 33) := fun h => HBAD.out k hlt (by rw [HOK'.out, List.all_eq_false]; exact ⟨y, HYM.out, by rw [h]; simp⟩)
          clear hac hy hr4
          by_cases b1 : y < lo
          · have d1 : decide (y < lo) = true := by simpa using b1
            go_wp2
            go_ret
            exact ⟨ret_int (HBK.out (by simp; omega)).symm, hbw.trans (hbo3.mono (by omega))⟩
          have d1 : decide (y < lo) = false := by simpa using b1
          by_cases b2 : hi < y
          · have d2 : decide (hi < y) = true := by simpa using b2
            go_wp2
            go_ret
            exact ⟨ret_int (HBK.out (by simp; omega)).symm, hbw.trans (hbo3.mono (by omega))⟩
          have d2 : decide (hi < y) = false := by simpa using b2
          go_wp2
          go_roundw
          case rel => exact ⟨q + 1, by omega, by go_num, (by first | trivial | rfl), by show List.all _ _ = true; rw [HS.out, List.all_append, hall.out]; simp; omega⟩
          case measure => simp [intOf]; omega
        · have e3 : T.take q = T := List.take_of_length_le (by rw [← HNT.out]; omega)
          have HT3 : Hid (tellOk ⟨so, ro, ol, we, qu, ti, pa⟩ k = true) := by show tellOk _ _ = true; rw [HOK'.out, ← e3]; exact hall.out
          clear e3 hr4
          go_wp2
          go_roundw
          case rel => exact ⟨k + 1, by omega, by go_num, fun j hj => by
            by_cases e : j = k
            · rw [e]; exact HT3.out
            · exact hok.out j (by omega), hbl.trans hbo3⟩
          case measure => simp [intOf]; omega
    · obtain rfl : k = 7 := by omega
      have HRR := Lib.hid (HALL.out hok.out)
      by_cases hq : (n : Int) = so
      · have hq1 : ((n : Int) != so) = false := by simp [hq]
        have HE := Lib.hid hq
        clear hq
        go_wp2
        go_ret
        exact ⟨ret_int (by rw [HRR.out, if_pos HE.out]), hbw⟩
      · have hq1 : ((n : Int) != so) = true := by simp [hq]
        go_wp2
        go_ret
        exact ⟨ret_int (by rw [HRR.out, if_neg hq]), hbw⟩
end Go.Proofs.YtmmmepmjmofbjaaDoor
