/- The contracts of package token and of the reference's package of chapter 3: what each function returns, and that it changes nothing that was there. -/
import Derived.Test.YtecgmmpafccbbaaRows
import Derived.WalkKit
import Derived.WalkSpells
import Derived.WalkLawsBesides
import Derived.Lib.Hide
namespace Go.Proofs.Ytecgmmpafccbbaa
open Go.RowKit
set_option linter.unusedVariables false
set_option linter.unusedSimpArgs false

theorem ret_int {k : IntKind} {a b : Int} (h : a = b) : Ending.returned (.int k a) = .returned (.int k b) := by rw [h]

def cutI (t : Int) : Int := max 0 (min t 2147483646)

theorem cutI_nonneg (t : Int) : 0 ≤ cutI t := by unfold cutI; omega
theorem cutI_lt (t : Int) : cutI t < 2147483647 := by unfold cutI; omega
theorem cutI_of (t : Int) (h : 0 ≤ t) (h2 : t < 2147483647) : cutI t = t := by unfold cutI; omega

set_option maxHeartbeats 400000 in
theorem cut_any (t : Int) (w : World) :
    Calls Try.prog 35 #[.int .i64 t] w fun e w' => e = .returned (.int .i64 (cutI t)) ∧ w = w' := by
  go_enter Try.func35, Try.ntmps35
  go_wp2
  all_goals
    go_ret
    exact ⟨ret_int (by unfold cutI; omega), rfl⟩

set_option maxHeartbeats 400000 in
theorem refcut_any (t : Int) (w : World) :
    Calls Try.prog 37 #[.int .i64 t] w fun e w' => e = .returned (.int .i64 (cutI t)) ∧ w = w' := by
  go_enter Try.func37, Try.ntmps37
  go_wp2
  all_goals
    go_ret
    exact ⟨ret_int (by unfold cutI; omega), rfl⟩

/-- one byte's step round the ring -/
def stepI (t : Int) (b : UInt8) : Int := (257 * t + b.toNat + 1) % 2147483647

theorem stepI_nonneg (t : Int) (b : UInt8) : 0 ≤ stepI t b := by unfold stepI; omega
theorem stepI_lt (t : Int) (b : UInt8) : stepI t b < 2147483647 := by unfold stepI; omega

set_option maxHeartbeats 400000 in
theorem round_any (t : Int) (b : UInt8) (a : Addr) (w : World) (h0 : 0 ≤ t) (h1 : t < 2147483647) (hc : w.cell? a = some (.int .i64 t)) (hf : w.frozen? a = false) :
    Calls Try.prog 36 #[.int .u8 b.toNat, .pointer (some a)] w fun e w' => e = .returned (.tuple #[]) ∧ w.setCell a (.int .i64 (stepI t b)) = w' := by
  have hb : (b.toNat : Int) < 256 := by have := b.toNat_lt; omega
  go_enter Try.func36, Try.ntmps36
  go_wp2
  go_end0
  exact ⟨rfl, rfl⟩

/-- a text's steps, from a place on -/
def moreI (t : Int) (l : List UInt8) : Int := l.foldl stepI t

theorem moreI_nil (t : Int) : moreI t [] = t := rfl
theorem moreI_append (t : Int) (a b : List UInt8) : moreI t (a ++ b) = moreI (moreI t a) b := by unfold moreI; exact List.foldl_append
theorem moreI_bounds (l : List UInt8) : ∀ (t : Int), 0 ≤ t → t < 2147483647 → 0 ≤ moreI t l ∧ moreI t l < 2147483647 := by
  induction l with
  | nil => intro t h0 h1; exact ⟨h0, h1⟩
  | cons b l ih => intro t _ _; exact ih (stepI t b) (stepI_nonneg t b) (stepI_lt t b)
theorem take_snoc (s : ByteArray) (k : Nat) (h : k < s.size) : s.data.toList.take (k + 1) = s.data.toList.take k ++ [s[k]] := by
  rw [List.take_succ_eq_append_getElem (by simpa using h)]; rfl
theorem moreI_snoc (t : Int) (s : ByteArray) (k : Nat) (h : k < s.size) : moreI t (s.data.toList.take (k + 1)) = stepI (moreI t (s.data.toList.take k)) s[k] := by
  rw [take_snoc s k h, moreI_append]; rfl

set_option maxHeartbeats 400000 in
theorem more_any (t : Int) (s : ByteArray) (w : World) (hs : s.size ≤ maxLen) :
    Calls Try.prog 14 #[.int .i64 t, .string s] w fun e w' => e = .returned (.int .i64 (moreI (cutI t) s.data.toList)) ∧ Below w.heap.size w w' := by
  unfold maxLen at hs
  have c0 := cutI_nonneg t
  have c1 := cutI_lt t
  go_enter Try.func14, Try.ntmps14
  go_wp2_with (first | (go_at_call 35; refine (cut_any _ _).mono ?_; rintro e w' ⟨rfl, rfl⟩))
  go_loopw [12] (fun i wr => ∃ k : Nat, k ≤ s.size ∧ i = .int .i64 k ∧ wr = w.alloc (.cells #[.int .i64 (moreI (cutI t) (s.data.toList.take k))] 3)) (fun i _ => s.size - (intOf i).toNat)
  case atStart => exact ⟨0, Nat.zero_le _, rfl, rfl⟩
  case round =>
    obtain ⟨k, hk, rfl, rfl⟩ := hrel
    have hm := moreI_bounds (s.data.toList.take k) _ c0 c1
    by_cases hlt : k < s.size
    · have hsn : Hid _ := Lib.hid (moreI_snoc (cutI t) s k hlt)
      obtain ⟨hm0, hm1⟩ := hm
      go_wp2_with (first | (go_at_call 36; refine (round_any _ s[k] _ _ hm0 hm1 (by simp) (by simp)).mono ?_; rintro e w' ⟨rfl, rfl⟩))
      go_roundw
      case rel => exact ⟨k + 1, by omega, by go_num, by rw [hsn.out]⟩
      case measure => simp [intOf]; omega
    · go_wp2
      go_ret
      exact ⟨ret_int (by rw [List.take_of_length_le (by simp; omega)]), (Below.refl _ _).alloc (Nat.le_refl _) _⟩

set_option maxHeartbeats 400000 in
theorem of_any (s : ByteArray) (w : World) (hs : s.size ≤ maxLen) :
    Calls Try.prog 12 #[.string s] w fun e w' => e = .returned (.int .i64 (moreI 1 s.data.toList)) ∧ Below w.heap.size w w' := by
  go_enter Try.func12, Try.ntmps12
  go_wp2_with (first | (go_at_call 14; refine (more_any _ _ _ hs).mono ?_; rintro e w' ⟨rfl, hb⟩))
  go_ret
  exact ⟨rfl, hb⟩

set_option maxHeartbeats 400000 in
theorem refmore_any (t : Int) (s : ByteArray) (w : World) (hs : s.size ≤ maxLen) :
    Calls Try.prog 18 #[.int .i64 t, .string s] w fun e w' => e = .returned (.int .i64 (moreI (cutI t) s.data.toList)) ∧ w = w' := by
  unfold maxLen at hs
  have c0 := cutI_nonneg t
  have c1 := cutI_lt t
  go_enter Try.func18, Try.ntmps18
  go_wp2_with (first | (go_at_call 37; refine (refcut_any _ _).mono ?_; rintro e w' ⟨rfl, rfl⟩))
  go_loop [5, 6] (fun h i => ∃ k : Nat, k ≤ s.size ∧ i = .int .i64 k ∧ h = .int .i64 (moreI (cutI t) (s.data.toList.take k))) (fun _ i => s.size - (intOf i).toNat)
  case atStart => exact ⟨0, Nat.zero_le _, rfl, rfl⟩
  case round =>
    obtain ⟨k, hk, rfl, rfl⟩ := hrel
    obtain ⟨hm0, hm1⟩ := moreI_bounds (s.data.toList.take k) _ c0 c1
    by_cases hlt : k < s.size
    · have hsn : Hid _ := Lib.hid (moreI_snoc (cutI t) s k hlt)
      have hb : (s[k].toNat : Int) < 256 := by have := s[k].toNat_lt; omega
      go_wp2
      go_round
      case rel => exact ⟨k + 1, by omega, by go_num, by rw [hsn.out]; rfl⟩
      case measure => simp [intOf]; omega
    · go_wp2
      go_ret
      exact ⟨ret_int (by rw [List.take_of_length_le (by simp; omega)]), rfl⟩

set_option maxHeartbeats 400000 in
theorem refof_any (s : ByteArray) (w : World) (hs : s.size ≤ maxLen) :
    Calls Try.prog 17 #[.string s] w fun e w' => e = .returned (.int .i64 (moreI 1 s.data.toList)) ∧ w = w' := by
  go_enter Try.func17, Try.ntmps17
  go_wp2_with (first | (go_at_call 18; refine (refmore_any _ _ _ hs).mono ?_; rintro e w' ⟨rfl, rfl⟩))
  go_ret
  exact ⟨rfl, rfl⟩

/-- any number as one from 0 to n - 1 -/
def placeI (v n : Int) : Int := v % n

theorem placeI_nonneg (v n : Int) (hn : 0 < n) : 0 ≤ placeI v n := Int.emod_nonneg v (by omega)
theorem placeI_lt (v n : Int) (hn : 0 < n) : placeI v n < n := Int.emod_lt_of_pos v hn
theorem placeI_pos (v n : Int) (hn : 0 < n) (h : 0 ≤ v.tmod n) : v.tmod n = placeI v n := by
  have e := Int.mul_tdiv_add_tmod v n
  have hl : v.tmod n < n := Int.tmod_lt_of_pos v hn
  unfold placeI
  conv => rhs; rw [← e]
  rw [Int.mul_add_emod_self_left, Int.emod_eq_of_lt h hl]
theorem placeI_neg (v n : Int) (hn : 0 < n) (h : v.tmod n < 0) : v.tmod n + n = placeI v n := by
  have e := Int.mul_tdiv_add_tmod v n
  have hl : -n < v.tmod n := Int.lt_tmod_of_pos v hn
  unfold placeI
  conv => rhs; rw [← e]
  rw [Int.mul_add_emod_self_left, ← Int.add_emod_right, Int.emod_eq_of_lt (by omega) (by omega)]

set_option maxHeartbeats 400000 in
theorem place_any (v n : Int) (w : World) (hn : 0 < n) (hn2 : n ≤ 4294967296) :
    Calls Try.prog 13 #[.int .i64 v, .int .i64 n] w fun e w' => e = .returned (.int .i64 (placeI v n)) ∧ w = w' := by
  have hne : (n == 0) = false := by simp; omega
  by_cases hs : 0 ≤ v.tmod n
  · have hp := Lib.hid (placeI_pos v n hn hs)
    go_enter Try.func13, Try.ntmps13
    go_wp2
    go_ret
    exact ⟨ret_int hp.out, rfl⟩
  · have hs' : v.tmod n < 0 := by omega
    have hp := Lib.hid (placeI_neg v n hn hs')
    have hl : -n < v.tmod n := Int.lt_tmod_of_pos v hn
    go_enter Try.func13, Try.ntmps13
    go_wp2
    go_ret
    exact ⟨ret_int hp.out, rfl⟩

end Go.Proofs.Ytecgmmpafccbbaa
