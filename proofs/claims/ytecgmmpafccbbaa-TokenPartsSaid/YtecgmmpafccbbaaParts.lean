/- The walk of the law TokenParts. -/
import Derived.Test.YtecgmmpafccbbaaNum
import Derived.Deep.RegionHeld3
import Derived.Laws.IdiomStrings
import Derived.Test.YtecgmmpafccbbaaInj
import Derived.Laws.BitsAllLaws
namespace Go.Proofs.Ytecgmmpafccbbaa
open Go.RowKit
set_option linter.unusedVariables false
set_option linter.unusedSimpArgs false

theorem place_nat (v : Int) (n : Nat) (hn : 0 < n) : ∃ k : Nat, k < n ∧ placeI v n = (k : Int) := by
  have h0 := placeI_nonneg v n (by omega)
  have h1 := placeI_lt v n (by omega)
  exact ⟨(placeI v n).toNat, by omega, by omega⟩

set_option maxHeartbeats 1000000 in
theorem parts_far (s : ByteArray) (a1 a2 a3 : Int) (w : World) (h : 1000 < s.size) :
    Calls Try.prog 5 #[.string s, .int .i64 a1, .int .i64 a2, .int .u8 a3] w fun e w' => e = .returned (.bool true) ∧ Below w.heap.size w w' := by
  go_enter Try.func5, Try.ntmps5
  go_wp2_with (first | (go_at_call 11; refine (awake_any _).mono ?_; rintro e w' ⟨rfl, hb⟩))
  go_ret
  exact ⟨rfl, hb⟩

theorem place_len (v : Int) (n k : Nat) (hk : placeI v ((n : Int) + 1) = k) (hn : n ≤ 1000) (w : World) :
    Calls Try.prog 13 #[.int .i64 v, .int .i64 ((n : Int) + 1)] w fun e w' => e = .returned (.int .i64 k) ∧ w = w' := by
  have := place_any v ((n : Int) + 1) w (by omega) (by omega)
  rw [hk] at this
  exact this

theorem of_front (s : ByteArray) (k : Nat) (hk : k ≤ s.size) (hs : s.size ≤ 1000) (w : World) :
    Calls Try.prog 12 #[.string (s.extract 0 k)] w fun e w' => e = .returned (.int .i64 (moreI 1 (s.data.toList.take k))) ∧ Below w.heap.size w w' := by
  have := of_any (s.extract 0 k) w (by unfold maxLen; rw [ByteArray.size_extract]; omega)
  have e : (s.extract 0 k).data.toList = s.data.toList.take k := by simp
  rw [e] at this
  exact this

theorem more_back (s : ByteArray) (k : Nat) (hk : k ≤ s.size) (hs : s.size ≤ 1000) (w : World) :
    Calls Try.prog 14 #[.int .i64 (moreI 1 (s.data.toList.take k)), .string (s.extract k s.size)] w fun e w' => e = .returned (.int .i64 (moreI 1 s.data.toList)) ∧ Below w.heap.size w w' := by
  have := more_any (moreI 1 (s.data.toList.take k)) (s.extract k s.size) w (by unfold maxLen; rw [ByteArray.size_extract]; omega)
  obtain ⟨h0, h1⟩ := moreI_bounds (s.data.toList.take k) 1 (by omega) (by omega)
  have e : (s.extract k s.size).data.toList = s.data.toList.drop k := by
    simp only [ByteArray.data_extract, Array.toList_extract, List.extract_eq_take_drop]
    rw [List.take_of_length_le (by simp)]
  rw [e, cutI_of _ h0 h1, ← moreI_append, List.take_append_drop] at this
  exact this

/-- a text as bytes of its own: where they lie, and that they may be written -/
theorem conv_bytes (s : ByteArray) (w : World) : ∃ (b cap : Nat) (w' : World), (convert 9 24 (.string s)).run Try.prog w = .ok (.slice (some ⟨b, 0, none⟩) s.size cap) w' ∧
    w.heap.size ≤ b ∧ (∀ j (hj : j < s.size), w'.cell? ⟨b, j, none⟩ = some (.int .u8 (s[j].toNat : Int))) ∧ (∀ j, j < s.size → w'.frozen? ⟨b, j, none⟩ = false) ∧ Below w.heap.size w w' := by
  refine ⟨w.heap.size, grownCap w s.size 0 5, _, run_bytes_of_string w 9 24 5 s Try.underlying9 Try.underlying24 Try.underlying5, Nat.le_refl _, ?_, ?_, ?_⟩
  · intro j hj
    have := bytesRow_at s (grownCap w s.size 0 5) j hj
    have e : (w.drew.alloc (.cells (bytesRow s (grownCap w s.size 0 5)) 5 ((bytesRow s (grownCap w s.size 0 5)).size, (bytesRow s (grownCap w s.size 0 5)).size + 1))).heap[w.heap.size]? = some (.cells (bytesRow s (grownCap w s.size 0 5)) 5 ((bytesRow s (grownCap w s.size 0 5)).size, (bytesRow s (grownCap w s.size 0 5)).size + 1)) := by
      show (w.heap.push _)[w.heap.size]? = _
      simp
    unfold World.cell?
    rw [e]
    exact this
  · intro j hj
    have e : (w.drew.alloc (.cells (bytesRow s (grownCap w s.size 0 5)) 5 ((bytesRow s (grownCap w s.size 0 5)).size, (bytesRow s (grownCap w s.size 0 5)).size + 1))).heap[w.heap.size]? = some (.cells (bytesRow s (grownCap w s.size 0 5)) 5 ((bytesRow s (grownCap w s.size 0 5)).size, (bytesRow s (grownCap w s.size 0 5)).size + 1)) := by
      show (w.heap.push _)[w.heap.size]? = _
      simp
    unfold World.frozen?
    rw [e]
    have hl : s.size ≤ (bytesRow s (grownCap w s.size 0 5)).size := by unfold bytesRow; rw [Array.size_append, Array.size_map]; exact Nat.le_add_right _ _
    simp
    omega
  · exact (Below.refl _ _).drew.alloc (Nat.le_refl _) _

/-- the bytes with one turned, as numbers -/
def turnedL (s : ByteArray) (i : Nat) (y : UInt8) : List Int := (s.data.toList.set i y).map fun b => (b.toNat : Int)

theorem conv_turned (s : ByteArray) (i : Nat) (hi : i < s.size) (y : UInt8) (b cap : Nat) (w' : World) (hc : ∀ j (hj : j < s.size), w'.cell? ⟨b, j, none⟩ = some (.int .u8 (s[j].toNat : Int))) :
    (convert 24 9 (.slice (some ⟨b, 0, none⟩) s.size cap)).run Try.prog (w'.setCell ⟨b, i, none⟩ (.int .u8 (y.toNat : Int))) = .ok (.string (strOfNums (turnedL s i y))) (w'.setCell ⟨b, i, none⟩ (.int .u8 (y.toNat : Int))) := by
  refine run_convert_bytes_arg _ 24 5 Try.underlying24 Try.underlying5 b 0 s.size cap (turnedL s i y) (by simp [turnedL]) (fun j hj => ?_) 9 Try.underlying9
  rw [Nat.zero_add]
  by_cases e : j = i
  · subst e
    rw [World.cell?_setCell_same (h := hc j hj)]
    simp [turnedL, List.getD, hj]
  · rw [World.cell?_setCell_other _ _ _ _ (by simp [Ne.symm e]), hc j hj]
    have hs : s.data.toList[j]? = some s[j] := by
      rw [List.getElem?_eq_getElem (by simpa using hj)]; rfl
    simp [turnedL, List.getD, List.getElem?_set, Ne.symm e, hs]

theorem turned_list (s : ByteArray) (i : Nat) (y : UInt8) : (strOfNums (turnedL s i y)).data.toList = s.data.toList.set i y := by
  rw [strOfNums_data, turnedL, List.map_map]
  conv => rhs; rw [← List.map_id (s.data.toList.set i y)]
  apply List.map_congr_left
  intro x _
  simp

theorem of_turned (s : ByteArray) (i : Nat) (y : UInt8) (h : s.size ≤ 1000) (w : World) :
    Calls Try.prog 12 #[.string (strOfNums (turnedL s i y))] w fun e w' => e = .returned (.int .i64 (moreI 1 (s.data.toList.set i y))) ∧ Below w.heap.size w w' := by
  have := of_any (strOfNums (turnedL s i y)) w (by unfold maxLen; rw [strOfNums_size]; simp [turnedL]; omega)
  rw [turned_list] at this
  exact this

theorem place_size (v : Int) (n k : Nat) (hk : placeI v (n : Int) = k) (h0 : 0 < n) (hn : n ≤ 1000) (w : World) :
    Calls Try.prog 13 #[.int .i64 v, .int .i64 (n : Int)] w fun e w' => e = .returned (.int .i64 k) ∧ w = w' := by
  have := place_any v (n : Int) w (by omega) (by omega)
  rw [hk] at this
  exact this

theorem xor_ne (x y : UInt8) (h : y ≠ 0) : x ^^^ y ≠ x := by
  intro e
  apply h
  have : x ^^^ (x ^^^ y) = x ^^^ x := by rw [e]
  rw [← UInt8.xor_assoc, UInt8.xor_self, UInt8.zero_xor] at this
  exact this

theorem turned_ne (s : ByteArray) (y : UInt8) (i : Nat) (hi : i < s.size) (h : y ≠ 0) : (moreI 1 (s.data.toList.set i (s[i] ^^^ y)) != moreI 1 s.data.toList) = true := by
  rw [bne_iff_ne]
  exact moreI_turned s.data.toList i (s[i] ^^^ y) 1 (by omega) (by omega) (by simpa using hi) (xor_ne s[i] y h)

set_option maxHeartbeats 2000000 in
theorem parts_near (s : ByteArray) (a1 a2 : Int) (turn : UInt8) (w : World) (h : s.size ≤ 1000) :
    Calls Try.prog 5 #[.string s, .int .i64 a1, .int .i64 a2, .int .u8 turn.toNat] w fun e w' => e = .returned (.bool true) ∧ Below w.heap.size w w' := by
  obtain ⟨k, hk, hkv⟩ := place_nat a1 (s.size + 1) (by omega)
  rw [show ((s.size + 1 : Nat) : Int) = (s.size : Int) + 1 from by omega] at hkv
  have HK := Lib.hid hkv
  clear hkv
  go_enter Try.func5, Try.ntmps5
  go_wp2_with fail
  refine (place_len _ _ _ HK.out h _).mono ?_
  rintro e w1 ⟨rfl, rfl⟩
  go_wp2_with fail
  refine (of_any _ _ (by unfold maxLen; omega)).mono ?_
  rintro e w1 ⟨rfl, hb1⟩
  obtain ⟨t0, t1⟩ := moreI_bounds s.data.toList 1 (by omega) (by omega)
  go_wp2_with fail
  refine (bytes_any _ _).mono ?_
  rintro e w2 ⟨rfl, hb2⟩
  replace hb2 := hb1.trans (hb2.mono hb1.size)
  rw [cutI_of _ t0 t1]
  go_wp2_with fail
  refine (number_bytes _ t0 t1 _).mono ?_
  rintro e w3 ⟨rfl, rfl⟩
  have HF := Lib.hid (fun w => of_front s k (by omega) h w)
  have HB := Lib.hid (fun w => more_back s k (by omega) h w)
  have HN := Lib.hid (turned_ne s turn)
  generalize byteS (moreI 1 s.data.toList) = bs at *
  generalize moreI 1 s.data.toList = t at *
  generalize moreI 1 (s.data.toList.take k) = u at *
  have d0 : decide (t < 0) = false := by simp; omega
  have d1 : decide (2147483647 ≤ t) = false := by simp; omega
  have T0 := Lib.hid t0
  have T1 := Lib.hid t1
  clear t0 t1
  have hks : (k : Int) ≤ (s.size : Int) := by omega
  have hkn : (k : Int).toNat = k := by simp
  go_wp2_with fail
  go_region_held3 (fun _ => True) (exact trivial) (first | (go_at_call 12; refine (HF.out _).mono ?_; rintro e w3 ⟨rfl, hb3⟩) | (go_at_call 14; refine (HB.out _).mono ?_; rintro e w4 ⟨rfl, hb4⟩))
  have hb := (hb2.drew.trans (hb3.mono hb2.drew.size))
  replace hb := hb.trans (hb4.mono hb.size)
  clear hb3 hb4 hb2 hb1 hkn hks d0 d1 HF HB HK
  by_cases hz : s.size = 0
  · have hz' : ((s.size : Int) == 0) = true := by simpa using hz
    clear hz
    go_wp2_with fail
    refine (awake_any _).mono ?_
    rintro e w5 ⟨rfl, hb5⟩
    go_wp2_with fail
    go_ret
    exact ⟨rfl, hb.trans (hb5.mono hb.size)⟩
  · have hz' : ((s.size : Int) == 0) = false := by simpa using hz
    by_cases hy : turn = 0
    · have hy' : ((turn.toNat : Int) == 0) = true := by simp [hy]
      clear hy hz
      go_wp2_with fail
      refine (awake_any _).mono ?_
      rintro e w5 ⟨rfl, hb5⟩
      go_wp2_with fail
      go_ret
      exact ⟨rfl, hb.trans (hb5.mono hb.size)⟩
    · have hy' : ((turn.toNat : Int) == 0) = false := by
        have : turn.toNat ≠ 0 := fun e => hy (UInt8.toNat_inj.1 (by simpa using e))
        simpa using this
      obtain ⟨i, hi, hiv⟩ := place_nat a2 s.size (by omega)
      go_wp2_with fail
      refine (place_size _ _ _ hiv (by omega) h _).mono ?_
      rintro e w5 ⟨rfl, rfl⟩
      obtain ⟨b, cap, w5, hk, hbb, hcell, hfree, hb5⟩ := conv_bytes s w4
      have hci := hcell i hi
      have hfi := hfree i hi
      have hx := u8_xor_nat s[i].toNat turn.toNat s[i].toNat_lt turn.toNat_lt
      rw [← UInt8.toNat_xor] at hx
      have hne := HN.out i hi hy
      have HO := Lib.hid (fun w => of_turned s i (s[i] ^^^ turn) h w)
      have hk2 := conv_turned s i hi (s[i] ^^^ turn) b cap w5 hcell
      generalize s[i] ^^^ turn = y at *
      generalize moreI 1 (s.data.toList.set i y) = v at *
      generalize strOfNums (turnedL s i y) = z at *
      replace hb5 := hb.trans (hb5.mono hb.size)
      have hbw := Nat.le_trans hb.size hbb
      clear hb hiv hcell hfree hz hy HN
      go_wp2_with fail
      refine (HO.out _).mono ?_
      rintro e w6 ⟨rfl, hb6⟩
      clear hk hk2
      go_wp2_with fail
      refine (awake_any _).mono ?_
      rintro e w7 ⟨rfl, hb7⟩
      go_wp2_with fail
      go_ret
      have h5 := hb5.setCell (p := ⟨b, i, none⟩) hbw (.int .u8 (y.toNat : Int))
      have h6 := h5.trans (hb6.mono h5.size)
      exact ⟨rfl, h6.trans (hb7.mono h6.size)⟩

theorem parts_walk (s : ByteArray) (a1 a2 a3 : Int) (w3 : (Lit.int .u8 a3).wf = true) (w : World) :
    Calls Try.prog 5 #[.string s, .int .i64 a1, .int .i64 a2, .int .u8 a3] w fun e w' => e = .returned (.bool true) ∧ Below w.heap.size w w' := by
  obtain ⟨y, rfl⟩ := byte_of a3 w3
  by_cases h : s.size ≤ 1000
  · exact parts_near s a1 a2 y w h
  · exact parts_far s a1 a2 _ w (by omega)

end Go.Proofs.Ytecgmmpafccbbaa
