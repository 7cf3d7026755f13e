/- The walk of the law NetOrders. -/
import Derived.Test.YtgjpjningkckpaaFull
namespace Go.Proofs.Ytgjpjningkckpaa
open Go.RowKit
set_option linter.unusedVariables false
set_option linter.unusedSimpArgs false

/-- the numbers from 1 to n -/
def fromOne (n : Nat) : List Int := (List.range n).map fun (j : Nat) => (j : Int) + 1
theorem fromOne_succ (n : Nat) : fromOne (n + 1) = fromOne n ++ [(n : Int) + 1] := by unfold fromOne; rw [List.range_succ, List.map_append]; rfl
theorem fromOne_length (n : Nat) : (fromOne n).length = n := by unfold fromOne; simp
theorem fromOne_get (n j : Nat) (hj : j < n) : (fromOne n)[j]? = some ((j : Int) + 1) := by
  unfold fromOne
  rw [List.getElem?_map, List.getElem?_range hj]
  rfl
theorem fromOne_at (n j : Nat) (h : j < (fromOne n).length) : (fromOne n)[j] = (j : Int) + 1 :=
  (List.getElem?_eq_some_iff.1 (fromOne_get n j (by rw [fromOne_length] at h; exact h))).2

theorem keysA (w : World) : KeysOk (w.alloc (.cells #[.string ⟨#[97]⟩] 9)) 1 (.slice (some ⟨w.heap.size, 0, none⟩) 1 1) :=
  ⟨_, 1, rfl, .inr ⟨rfl, w.heap.size, 0, ⟨#[97]⟩, #[.string ⟨#[97]⟩], (0, 0), rfl, (MapKept.heap_alloc w _).1, rfl⟩⟩

theorem drop_take0 (L : List Int) (i : Nat) : (L.drop i).take 0 ++ (L.drop i).drop (0 + 1) = L.drop (i + 1) := by
  rw [List.take_zero, List.nil_append, List.drop_drop]
theorem drop_head (L : List Int) (i : Nat) (x : Int) (h : L[i]? = some x) (h0 : 0 < (L.drop i).length) : (L.drop i)[0] = x := by
  have : (L.drop i)[0]? = some x := by rw [List.getElem?_drop]; exact h
  exact (List.getElem?_eq_some_iff.1 this).2

set_option maxRecDepth 100000 in
set_option maxHeartbeats 8000000 in
theorem orders_walk (a0 a1 : Int) (w : World) :
    Calls Try.prog 5 #[.int .i64 a0, .int .i64 a1] w fun e w' => e = .returned (.bool true) ∧ Below w.heap.size w w' := by
  obtain ⟨r, hr, hrv⟩ := place_nat a0 50 (by omega)
  obtain ⟨t, ht, htv⟩ := place_nat a1 (1 + r) (by omega)
  have HP := Lib.hid hrv
  have HT : Hid (placeI a1 (1 + (r : Int)) = (t : Int)) := htv
  clear hrv htv
  go_enter Try.func5, Try.ntmps5
  go_wp2_with fail
  refine (new_any _).mono ?_
  rintro e w1 ⟨rfl, rfl⟩
  have HN := Lib.hid (NetInv.new w w 1 (Below.refl _ _))
  have hpw : w.heap.size ≤ w.heap.size := Nat.le_refl _
  generalize w.alloc _ = W1 at *
  generalize hpp : w.heap.size = p at HN ⊢
  have HPP := Lib.hid hpp
  clear hpp hpw
  go_wp2_with fail
  refine (place_is _ _ _ HP.out (by omega) (by omega) _).mono ?_
  rintro e w2 ⟨rfl, rfl⟩
  go_wp2_with fail
  go_loopw [7] (fun iv wr => ∃ i : Nat, i ≤ 1 + r ∧ iv = .int .i64 i ∧ NetInv w wr p 1 (fromOne i)) (fun iv _ => 1 + r - (intOf iv).toNat)
  case atStart => exact ⟨0, by omega, rfl, HN.out⟩
  case round =>
    clear HN
    obtain ⟨i, hi, rfl, hat⟩ := hrel
    have HA := Lib.hid hat
    clear hat
    by_cases hlt : (i : Int) < 1 + (r : Int)
    · go_wp2_with fail
      refine (inv_send w _ p 1 (fromOne i) (HA.out.keep (Below.one wr _ (Nat.le_refl _))) (by rw [fromOne_length]; omega) 1 0 0 ((i : Int) + 1) 0 none _ 0 1 (keysA wr)).mono ?_
      rintro e w3 ⟨rfl, hn, -⟩
      have HA3 : Hid (NetInv w w3 p 1 (fromOne (i + 1))) := by rw [fromOne_succ]; exact hn
      clear hn HA
      go_wp2_with fail
      go_roundw
      case rel => exact ⟨i + 1, by omega, by go_num, HA3.out⟩
      case measure => simp [intOf]; omega
    · have hge : 1 + (r : Int) ≤ (i : Int) := by omega
      have HA2 : Hid (NetInv w wr p 1 (fromOne (1 + r))) := by have := HA.out; rw [show i = 1 + r by omega] at this; exact this
      clear HA
      go_wp2_with fail
      refine (place_is _ _ _ HT.out (by omega) (by omega) _).mono ?_
      rintro e w3 ⟨rfl, rfl⟩
      go_wp2_with fail
      refine (inv_twice w wr p 1 (fromOne (1 + r)) HA2.out t (by rw [fromOne_length]; exact ht) (by rw [fromOne_length]; omega) ((t : Int) + 1) (fromOne_at _ _ _)).mono ?_
      rintro e w3 ⟨rfl, hn, -⟩
      obtain ⟨L, hL⟩ : ∃ L, L = fromOne (1 + r) ++ [(t : Int) + 1] := ⟨_, rfl⟩
      have hlen : L.length = 2 + r := by rw [hL, List.length_append, fromOne_length]; simp; omega
      have hLl : ∀ q : Nat, q < 1 + r → L[q]? = some ((q : Int) + 1) := fun q hq => by rw [hL, List.getElem?_append_left (by rw [fromOne_length]; exact hq), fromOne_get _ _ hq]
      have hLr : L[1 + r]? = some ((t : Int) + 1) := by rw [hL, List.getElem?_append_right (by rw [fromOne_length]; omega), fromOne_length]; simp
      rw [← hL] at hn
      have HL := Lib.hid hlen
      have HLl := Lib.hid hLl
      have HLr := Lib.hid hLr
      have HA3 := Lib.hid hn
      clear hn hlen hLl hLr hL HA2
      go_wp2_with fail
      refine (inv_twice_no w w3 p 1 L HA3.out (-1) (by omega)).mono ?_
      rintro e w4 ⟨rfl, hn, -⟩
      have HA4 := Lib.hid hn
      clear hn HA3
      go_wp2_with fail
      refine (inv_twice_no w w4 p 1 L HA4.out _ (by rw [HL.out]; omega)).mono ?_
      rintro e w5 ⟨rfl, hn, -⟩
      have HA5 : Hid (NetInv w w5 p 1 (L.drop 0)) := hn
      clear hn HA4
      go_wp2_with fail
      go_loopw [9] (fun iv wr => ∃ q : Nat, q ≤ 2 + r ∧ iv = .int .i64 q ∧ NetInv w wr p 1 (L.drop q)) (fun iv _ => 2 + r - (intOf iv).toNat)
      case atStart => exact ⟨0, by omega, rfl, HA5.out⟩
      case round =>
        clear HA5
        obtain ⟨q, hq, rfl, hat⟩ := hrel
        have HA := Lib.hid hat
        clear hat
        by_cases hlq : (q : Int) ≤ 1 + (r : Int)
        · by_cases heq : q = 1 + r
          · have hqe : ((q : Int) == 1 + (r : Int)) = true := by simp; omega
            have HX : Hid (L[q]? = some ((t : Int) + 1)) := by rw [heq]; exact HLr.out
            clear heq
            go_wp2_with fail
            refine (inv_take w _ p 1 (L.drop q) HA.out (by rw [List.length_drop, HL.out]; omega) 0 (by rw [List.length_drop, HL.out]; omega) ((t : Int) + 1) (drop_head L q _ HX.out _)).mono ?_
            rintro e w6 ⟨k1, f1, t1, n1, b1, q1, ka, kc, rfl, hn, -⟩
            have HA6 : Hid (NetInv w w6 p 1 (L.drop (q + 1))) := by have := hn; rw [drop_take0] at this; exact this
            clear hn HA HX
            go_wp2_with fail
            have HA7 := Lib.hid (HA6.out.keep (Below.one w6 (.cells #[.int .i64 k1, .int .i64 f1, .int .i64 t1, .int .i64 ((t : Int) + 1), .slice b1 0 q1, .slice ka 1 kc, .int .i64 n1] 32) (Nat.le_refl _)))
            go_roundw
            case rel => exact ⟨q + 1, by omega, by go_num, HA7.out⟩
            case measure => simp [intOf]; omega
          · have hqe : ((q : Int) == 1 + (r : Int)) = false := by simp; omega
            have HX : Hid (L[q]? = some ((q : Int) + 1)) := HLl.out q (by omega)
            clear heq
            go_wp2_with fail
            refine (inv_take w _ p 1 (L.drop q) HA.out (by rw [List.length_drop, HL.out]; omega) 0 (by rw [List.length_drop, HL.out]; omega) ((q : Int) + 1) (drop_head L q _ HX.out _)).mono ?_
            rintro e w6 ⟨k1, f1, t1, n1, b1, q1, ka, kc, rfl, hn, -⟩
            have HA6 : Hid (NetInv w w6 p 1 (L.drop (q + 1))) := by have := hn; rw [drop_take0] at this; exact this
            clear hn HA HX
            go_wp2_with fail
            have HA7 := Lib.hid (HA6.out.keep (Below.one w6 (.cells #[.int .i64 k1, .int .i64 f1, .int .i64 t1, .int .i64 ((q : Int) + 1), .slice b1 0 q1, .slice ka 1 kc, .int .i64 n1] 32) (Nat.le_refl _)))
            go_roundw
            case rel => exact ⟨q + 1, by omega, by go_num, HA7.out⟩
            case measure => simp [intOf]; omega
        · have HA6 : Hid (NetInv w wr p 1 []) := by
            have := HA.out
            rw [List.drop_of_length_le (by rw [HL.out]; omega)] at this
            exact this
          clear HA
          go_wp2_with fail
          refine (inv_take_no w _ p 1 [] HA6.out 0 (by simp)).mono ?_
          rintro e w6 ⟨rfl, hn, hb⟩
          unfold noMsg
          have HA7 := Lib.hid (hn.keep (Below.one w6 (.cells #[.int .i64 0, .int .i64 0, .int .i64 0, .int .i64 0, .slice none 0 0, .slice none 0 0, .int .i64 0] 32) (Nat.le_refl _)))
          clear hn hb
          go_wp2_with fail
          refine (len_is w _ p 1 [] HA7.out 0 rfl).mono ?_
          rintro e w7 ⟨rfl, rfl⟩
          go_wp2_with fail
          refine (awake22_any _).mono ?_
          rintro e w7 ⟨rfl, hb⟩
          go_wp2_with fail
          go_ret
          exact ⟨rfl, HA7.out.2.1.trans (hb.mono HA7.out.2.1.size)⟩

end Go.Proofs.Ytgjpjningkckpaa
