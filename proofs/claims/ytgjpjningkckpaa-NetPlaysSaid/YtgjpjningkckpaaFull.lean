/- The walk of the law NetFull. -/
import Derived.Test.YtgjpjningkckpaaTwice
namespace Go.Proofs.Ytgjpjningkckpaa
open Go.RowKit
set_option linter.unusedVariables false
set_option linter.unusedSimpArgs false

/-- the numbers below n -/
def rangeI (n : Nat) : List Int := (List.range n).map fun (j : Nat) => (j : Int)
theorem rangeI_succ (n : Nat) : rangeI (n + 1) = rangeI n ++ [(n : Int)] := by unfold rangeI; rw [List.range_succ, List.map_append]; rfl
theorem rangeI_length (n : Nat) : (rangeI n).length = n := by unfold rangeI; simp
theorem rangeI_at (n j : Nat) (h : j < (rangeI n).length) : (rangeI n)[j] = (j : Int) := by
  have hj : j < n := by rw [rangeI_length] at h; exact h
  have e : (rangeI n)[j]? = some (j : Int) := by
    unfold rangeI
    rw [List.getElem?_map, List.getElem?_range hj]
    rfl
  exact (List.getElem?_eq_some_iff.1 e).2

theorem place_nat (v : Int) (n : Nat) (hn : 0 < n) : ∃ k : Nat, k < n ∧ placeI v n = (k : Int) := by
  have h0 := placeI_nonneg v n (by omega)
  have h1 := placeI_lt v n (by omega)
  exact ⟨(placeI v n).toNat, by omega, by omega⟩
theorem place_is (v n k : Int) (hk : placeI v n = k) (h0 : 0 < n) (hn : n ≤ 4294967296) (w : World) :
    Calls Try.prog 8 #[.int .i64 v, .int .i64 n] w fun e w' => e = .returned (.int .i64 k) ∧ w = w' := by
  have := place_any v n w h0 hn
  rw [hk] at this
  exact this
theorem len_is (w0 w : World) (p m : Nat) (ids : List Int) (h : NetInv w0 w p m ids) (c : Int) (hc : (ids.length : Int) = c) :
    Calls Try.prog 13 #[.pointer (some ⟨p, 0, none⟩)] w fun e w' => e = .returned (.int .i64 c) ∧ w = w' := by
  subst hc
  exact inv_len w0 w p m ids h
theorem taken_length (ids : List Int) (i : Nat) (h : i < ids.length) : (ids.take i ++ ids.drop (i + 1)).length = ids.length - 1 := by
  rw [List.length_append, List.length_take, List.length_drop]; omega

set_option maxRecDepth 100000 in
set_option maxHeartbeats 4000000 in
theorem full_walk (a0 a1 : Int) (w : World) :
    Calls Try.prog 4 #[.int .i64 a0, .int .i64 a1] w fun e w' => e = .returned (.bool true) ∧ Below w.heap.size w w' := by
  obtain ⟨r, hr, hrv⟩ := place_nat a0 6 (by omega)
  have HP := Lib.hid hrv
  clear hrv
  go_enter Try.func4, Try.ntmps4
  go_wp2_with fail
  refine (new_any _).mono ?_
  rintro e w1 ⟨rfl, rfl⟩
  have HN := Lib.hid (NetInv.new w w 0 (Below.refl _ _))
  have hpw : w.heap.size ≤ w.heap.size := Nat.le_refl _
  generalize w.alloc _ = W1 at *
  generalize hpp : w.heap.size = p at HN ⊢
  have HPP := Lib.hid hpp
  clear hpp hpw
  go_wp2_with fail
  refine (place_is _ _ _ HP.out (by omega) (by omega) _).mono ?_
  rintro e w2 ⟨rfl, rfl⟩
  go_wp2_with fail
  go_loopw [7] (fun iv wr => ∃ i : Nat, i ≤ 397 + r ∧ iv = .int .i64 i ∧ NetInv w wr p 0 (rangeI (min i 400))) (fun iv _ => 397 + r - (intOf iv).toNat)
  case atStart => exact ⟨0, by omega, rfl, HN.out⟩
  case round =>
    clear HN
    obtain ⟨i, hi, rfl, hat⟩ := hrel
    have HA := Lib.hid hat
    clear hat
    by_cases hlt : (i : Int) < 397 + (r : Int)
    · by_cases h4 : i < 400
      · have hm : min i 400 = i := by omega
        have hm2 : min (i + 1) 400 = i + 1 := by omega
        have HA2 : Hid (NetInv w wr p 0 (rangeI i)) := by have := HA.out; rw [hm] at this; exact this
        have HM2 := Lib.hid hm2
        have h4' : (i : Int) < 400 := by omega
        clear hm hm2 HA h4
        go_wp2_with fail
        refine (inv_send w wr p 0 (rangeI i) HA2.out (by rw [rangeI_length]; omega) 1 0 0 i 0 none none 0 0 (noKeys _)).mono ?_
        rintro e w3 ⟨rfl, hn, -⟩
        have HA3 : Hid (NetInv w w3 p 0 (rangeI (min (i + 1) 400))) := by rw [HM2.out, rangeI_succ]; exact hn
        clear hn
        go_wp2_with fail
        go_roundw
        case rel => exact ⟨i + 1, by omega, by go_num, HA3.out⟩
        case measure => simp [intOf]; omega
      · have hm : min i 400 = 400 := by omega
        have hm2 : min (i + 1) 400 = 400 := by omega
        have HA2 : Hid (NetInv w wr p 0 (rangeI 400)) := by have := HA.out; rw [hm] at this; exact this
        have HM2 := Lib.hid hm2
        have h4' : ¬ (i : Int) < 400 := by omega
        clear hm hm2 HA h4
        go_wp2_with fail
        refine (inv_send_full w wr p 0 (rangeI 400) HA2.out (by rw [rangeI_length]; omega) 1 0 0 i 0 none none 0 0 0).mono ?_
        rintro e w3 ⟨rfl, hn, -⟩
        have HA3 : Hid (NetInv w w3 p 0 (rangeI (min (i + 1) 400))) := by rw [HM2.out]; exact hn
        clear hn
        go_wp2_with fail
        go_roundw
        case rel => exact ⟨i + 1, by omega, by go_num, HA3.out⟩
        case measure => simp [intOf]; omega
    · have hge : 397 + (r : Int) ≤ (i : Int) := by omega
      by_cases hc : 397 + r ≤ 400
      · have hm : min i 400 = 397 + r := by omega
        have HA2 : Hid (NetInv w wr p 0 (rangeI (397 + r))) := by have := HA.out; rw [hm] at this; exact this
        have hc1 : 397 + (r : Int) ≤ 400 := by omega
        obtain ⟨j, hj, hjv⟩ := place_nat a1 (397 + r) (by omega)
        have HJ : Hid (placeI a1 (397 + (r : Int)) = (j : Int)) := hjv
        clear hm HA hjv
        go_wp2_with fail
        refine (place_is _ _ _ HJ.out (by omega) (by omega) _).mono ?_
        rintro e w3 ⟨rfl, rfl⟩
        go_wp2_with fail
        refine (inv_take w wr p 0 (rangeI (397 + r)) HA2.out (by rw [rangeI_length]; omega) j (by rw [rangeI_length]; exact hj) j (rangeI_at _ _ _)).mono ?_
        rintro e w3 ⟨k1, f1, t1, n1, b1, q1, ka, kc, rfl, hn, -⟩
        have hlen := taken_length (rangeI (397 + r)) j (by rw [rangeI_length]; exact hj)
        rw [rangeI_length] at hlen
        have HL := Lib.hid hlen
        have HA3 := Lib.hid hn
        clear hn hlen
        generalize List.take j (rangeI (397 + r)) ++ List.drop (j + 1) (rangeI (397 + r)) = ids at *
        go_wp2_with fail
        refine (inv_take_no w _ p 0 ids (HA3.out.keep (Below.one w3 _ (Nat.le_refl _))) _ (by rw [HL.out]; omega)).mono ?_
        rintro e w4 ⟨rfl, hn, hb⟩
        unfold noMsg
        have hid : w4.cell? ⟨w3.heap.size, 3, none⟩ = some (.int .i64 j) := by rw [(bcell hb).1 _ _ (by simp)]; simp
        have hz : w3.heap.size < w4.heap.size := by have := hb.size; simp at this; omega
        have HA4 := Lib.hid (hn.keep (Below.one w4 (.cells #[.int .i64 0, .int .i64 0, .int .i64 0, .int .i64 0, .slice none 0 0, .slice none 0 0, .int .i64 0] 32) (Nat.le_refl _)))
        clear hn hb
        go_wp2_with fail
        refine (len_is w _ p 0 ids HA4.out (397 + (r : Int) - 1) (by rw [HL.out]; omega)).mono ?_
        rintro e w5 ⟨rfl, rfl⟩
        go_wp2_with fail
        refine (inv_send w _ p 0 ids HA4.out (by rw [HL.out]; omega) 1 0 0 9 0 none none 0 0 (noKeys _)).mono ?_
        rintro e w5 ⟨rfl, hn, -⟩
        have HA5 := Lib.hid hn
        clear hn hid
        go_wp2_with fail
        refine (len_is w _ p 0 (ids ++ [9]) HA5.out (397 + (r : Int)) (by rw [List.length_append, HL.out]; simp <;> omega)).mono ?_
        rintro e w6 ⟨rfl, rfl⟩
        go_wp2_with fail
        refine (awake22_any _).mono ?_
        rintro e w6 ⟨rfl, hb⟩
        go_wp2_with fail
        go_ret
        exact ⟨rfl, HA5.out.2.1.trans (hb.mono HA5.out.2.1.size)⟩
      · have hm : min i 400 = 400 := by omega
        have HA2 : Hid (NetInv w wr p 0 (rangeI (400))) := by have := HA.out; rw [hm] at this; exact this
        have hc1 : ¬ 397 + (r : Int) ≤ 400 := by omega
        obtain ⟨j, hj, hjv⟩ := place_nat a1 (400) (by omega)
        have HJ : Hid (placeI a1 (400) = (j : Int)) := hjv
        clear hm HA hjv
        go_wp2_with fail
        refine (place_is _ _ _ HJ.out (by omega) (by omega) _).mono ?_
        rintro e w3 ⟨rfl, rfl⟩
        go_wp2_with fail
        refine (inv_take w wr p 0 (rangeI (400)) HA2.out (by rw [rangeI_length]; omega) j (by rw [rangeI_length]; exact hj) j (rangeI_at _ _ _)).mono ?_
        rintro e w3 ⟨k1, f1, t1, n1, b1, q1, ka, kc, rfl, hn, -⟩
        have hlen := taken_length (rangeI (400)) j (by rw [rangeI_length]; exact hj)
        rw [rangeI_length] at hlen
        have HL := Lib.hid hlen
        have HA3 := Lib.hid hn
        clear hn hlen
        generalize List.take j (rangeI (400)) ++ List.drop (j + 1) (rangeI (400)) = ids at *
        go_wp2_with fail
        refine (inv_take_no w _ p 0 ids (HA3.out.keep (Below.one w3 _ (Nat.le_refl _))) _ (by rw [HL.out]; omega)).mono ?_
        rintro e w4 ⟨rfl, hn, hb⟩
        unfold noMsg
        have hid : w4.cell? ⟨w3.heap.size, 3, none⟩ = some (.int .i64 j) := by rw [(bcell hb).1 _ _ (by simp)]; simp
        have hz : w3.heap.size < w4.heap.size := by have := hb.size; simp at this; omega
        have HA4 := Lib.hid (hn.keep (Below.one w4 (.cells #[.int .i64 0, .int .i64 0, .int .i64 0, .int .i64 0, .slice none 0 0, .slice none 0 0, .int .i64 0] 32) (Nat.le_refl _)))
        clear hn hb
        go_wp2_with fail
        refine (len_is w _ p 0 ids HA4.out (399) (by rw [HL.out]; omega)).mono ?_
        rintro e w5 ⟨rfl, rfl⟩
        go_wp2_with fail
        refine (inv_send w _ p 0 ids HA4.out (by rw [HL.out]; omega) 1 0 0 9 0 none none 0 0 (noKeys _)).mono ?_
        rintro e w5 ⟨rfl, hn, -⟩
        have HA5 := Lib.hid hn
        clear hn hid
        go_wp2_with fail
        refine (len_is w _ p 0 (ids ++ [9]) HA5.out (400) (by rw [List.length_append, HL.out]; simp <;> omega)).mono ?_
        rintro e w6 ⟨rfl, rfl⟩
        go_wp2_with fail
        refine (awake22_any _).mono ?_
        rintro e w6 ⟨rfl, hb⟩
        go_wp2_with fail
        go_ret
        exact ⟨rfl, HA5.out.2.1.trans (hb.mono HA5.out.2.1.size)⟩

end Go.Proofs.Ytgjpjningkckpaa
