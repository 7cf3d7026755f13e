/- The walks of the laws TokenSteps and TokenNumbers. -/
import Derived.Test.YtecgmmpafccbbaaByt
import Derived.OpenShut
namespace Go.Proofs.Ytecgmmpafccbbaa
open Go.RowKit
set_option linter.unusedVariables false
set_option linter.unusedSimpArgs false

theorem of_nil (w : World) : Calls Try.prog 12 #[.string ⟨#[]⟩] w fun e w' => e = .returned (.int .i64 1) ∧ Below w.heap.size w w' :=
  (of_any ⟨#[]⟩ w (by decide)).mono fun _ _ h => h
theorem of_a (w : World) : Calls Try.prog 12 #[.string ⟨#[97]⟩] w fun e w' => e = .returned (.int .i64 355) ∧ Below w.heap.size w w' :=
  (of_any ⟨#[97]⟩ w (by decide)).mono fun _ _ h => h

set_option maxHeartbeats 400000 in
theorem awake_any (w : World) :
    Calls Try.prog 11 #[] w fun e w' => e = .returned (.bool true) ∧ Below w.heap.size w w' := by
  go_enter Try.func11, Try.ntmps11
  go_wp2_with fail
  refine (of_nil _).mono ?_
  rintro e w1 ⟨rfl, hb1⟩
  go_wp2_with fail
  refine (of_a _).mono ?_
  rintro e w2 ⟨rfl, hb2⟩
  go_wp2_with fail
  go_ret
  exact ⟨rfl, hb1.trans (hb2.mono hb1.size)⟩

/-- one byte in one new block, as a text -/
theorem conv1 (a : Int) (w : World) :
    (convert 24 9 (.slice (some ⟨w.heap.size, 0, none⟩) 1 1)).run Try.prog (w.alloc (.cells #[.int .u8 a] 5)) = .ok (.string (strOfNums [a])) (w.alloc (.cells #[.int .u8 a] 5)) :=
  run_convert_bytes_arg _ 24 5 Try.underlying24 Try.underlying5 w.heap.size 0 1 1 [a] rfl (fun i hi => by
    match i, hi with
    | 0, _ => simp) 9 Try.underlying9

theorem byte_of (a : Int) (h : (Lit.int .u8 a).wf = true) : ∃ b : UInt8, a = b.toNat := by
  have := bounds_u8 h
  exact ⟨UInt8.ofNat a.toNat, by simp; omega⟩

set_option maxHeartbeats 1000000 in
theorem steps_far (a0 : ByteArray) (a1 : Int) (a2 : Int) (w : World) (h : 500 < a0.size) :
    Calls Try.prog 3 #[.string a0, .int .u8 a1, .int .i64 a2] w fun e w' => e = .returned (.bool true) ∧ Below w.heap.size w w' := by
  go_enter Try.func3, Try.ntmps3
  go_wp2_with (first | (go_at_call 11; refine (awake_any _).mono ?_; rintro e w' ⟨rfl, hb⟩))
  go_ret
  exact ⟨rfl, hb⟩

theorem stepI_eq (t x : Int) (h0 : 0 ≤ x) (h1 : x < 256) : stepI t (UInt8.ofNat x.toNat) = (257 * t + x + 1) % 2147483647 := by
  unfold stepI
  have : ((UInt8.ofNat x.toNat).toNat : Int) = x := by simp; omega
  rw [this]

theorem more_byte (t x : Int) (s : ByteArray) (h0 : 0 ≤ x) (h1 : x < 256) : moreI t (s ++ strOfNums [x]).data.toList = (257 * moreI t s.data.toList + x + 1) % 2147483647 := by
  rw [← stepI_eq _ x h0 h1]
  have : (s ++ strOfNums [x]).data.toList = s.data.toList ++ [UInt8.ofNat x.toNat] := by
    simp [strOfNums]
  rw [this, moreI_append]
  rfl

theorem of_snoc (a0 : ByteArray) (x : Int) (w : World) (h : a0.size ≤ 500) (h0 : 0 ≤ x) (h1 : x < 256) :
    Calls Try.prog 12 #[.string (a0 ++ strOfNums [x])] w fun e w' => e = .returned (.int .i64 ((257 * moreI 1 a0.data.toList + x + 1) % 2147483647)) ∧ Below w.heap.size w w' := by
  have := of_any (a0 ++ strOfNums [x]) w (by
    have e : (a0 ++ strOfNums [x]).size = a0.size + 1 := by rw [ByteArray.size_append, strOfNums_size]; rfl
    rw [e]; unfold maxLen; omega)
  rw [more_byte 1 x a0 h0 h1] at this
  exact this

theorem more_zero (t : Int) (w : World) (h0 : 0 ≤ t) (h1 : t < 2147483647) :
    Calls Try.prog 14 #[.int .i64 t, .string ⟨#[0]⟩] w fun e w' => e = .returned (.int .i64 ((257 * t + 1) % 2147483647)) ∧ Below w.heap.size w w' := by
  have := more_any t ⟨#[0]⟩ w (by decide)
  have e : moreI (cutI t) (⟨#[0]⟩ : ByteArray).data.toList = (257 * t + 1) % 2147483647 := by
    rw [cutI_of t h0 h1]; show stepI t 0 = _; unfold stepI; simp
  rw [e] at this
  exact this

theorem more_low (w : World) :
    Calls Try.prog 14 #[.int .i64 (-5), .string ⟨#[]⟩] w fun e w' => e = .returned (.int .i64 0) ∧ Below w.heap.size w w' :=
  (more_any (-5) ⟨#[]⟩ w (by decide)).mono fun _ _ h => h
theorem more_high (w : World) :
    Calls Try.prog 14 #[.int .i64 2147483654, .string ⟨#[]⟩] w fun e w' => e = .returned (.int .i64 2147483646) ∧ Below w.heap.size w w' :=
  (more_any 2147483654 ⟨#[]⟩ w (by decide)).mono fun _ _ h => h

set_option maxHeartbeats 1000000 in
theorem steps_near (a0 : ByteArray) (x : Int) (a2 : Int) (w : World) (h : a0.size ≤ 500) (h0 : 0 ≤ x) (h1 : x < 256) :
    Calls Try.prog 3 #[.string a0, .int .u8 x, .int .i64 a2] w fun e w' => e = .returned (.bool true) ∧ Below w.heap.size w w' := by
  have hsz : a0.size + (strOfNums [x]).size ≤ 501 := by rw [strOfNums_size]; simp; omega
  go_enter Try.func3, Try.ntmps3
  go_wp2_with fail
  refine (of_any _ _ (by unfold maxLen; omega)).mono ?_
  rintro e w1 ⟨rfl, hb1⟩
  have kc := conv1 x w1
  obtain ⟨m0, m1⟩ := moreI_bounds a0.data.toList 1 (by omega) (by omega)
  go_wp2_with fail
  refine (of_snoc _ _ _ h h0 h1).mono ?_
  rintro e w2 ⟨rfl, hb2⟩
  have hb : Below w.heap.size w w2 := (hb1.alloc hb1.size _).trans (hb2.mono (by have := hb1.size; simp; omega))
  clear hb1 hb2 kc hsz
  generalize moreI 1 a0.data.toList = t at *
  go_wp2_with fail
  refine (place_any _ _ _ (by omega) (by omega)).mono ?_
  rintro e w3 ⟨rfl, rfl⟩
  have p0 := placeI_nonneg a2 40 (by omega)
  have p1 := placeI_lt a2 40 (by omega)
  generalize placeI a2 40 = n at *
  go_wp2_with fail
  go_loopw [7, 8] (fun tv nv wr => ∃ t n : Int, 0 ≤ t ∧ t < 2147483647 ∧ 0 ≤ n ∧ n ≤ 40 ∧ tv = .int .i64 t ∧ nv = .int .i64 n ∧ Below w.heap.size w wr) (fun _ n _ => (intOf n).toNat)
  case atStart => exact ⟨t, n, m0, m1, p0, by omega, rfl, rfl, hb⟩
  case round =>
    clear hb m0 m1 p0 p1
    obtain ⟨t', n', t0, t1, n0, n1, rfl, rfl, hb⟩ := hrel
    by_cases hn : 0 < n'
    · go_wp2_with fail
      refine (more_zero _ _ t0 t1).mono ?_
      rintro e w4 ⟨rfl, hb4⟩
      go_wp2_with fail
      go_roundw
      case rel => exact ⟨_, _, by omega, by omega, by omega, by omega, rfl, rfl, hb.trans (hb4.mono hb.size)⟩
      case measure => simp [intOf]; omega
    · go_wp2_with fail
      refine (more_low _).mono ?_
      rintro e w4 ⟨rfl, hb4⟩
      go_wp2_with fail
      refine (more_high _).mono ?_
      rintro e w5 ⟨rfl, hb5⟩
      go_wp2_with fail
      refine (awake_any _).mono ?_
      rintro e w6 ⟨rfl, hb6⟩
      go_wp2_with fail
      go_ret
      have h4 := hb.trans (hb4.mono hb.size)
      have h5 := h4.trans (hb5.mono h4.size)
      exact ⟨rfl, h5.trans (hb6.mono h5.size)⟩

theorem steps_walk (a0 : ByteArray) (a1 : Int) (a2 : Int) (w1 : (Lit.int .u8 a1).wf = true) (w : World) :
    Calls Try.prog 3 #[.string a0, .int .u8 a1, .int .i64 a2] w fun e w' => e = .returned (.bool true) ∧ Below w.heap.size w w' := by
  obtain ⟨h0, h1⟩ := bounds_u8 w1
  by_cases h : a0.size ≤ 500
  · exact steps_near a0 a1 a2 w h h0 (by omega)
  · exact steps_far a0 a1 a2 w (by omega)

end Go.Proofs.Ytecgmmpafccbbaa
