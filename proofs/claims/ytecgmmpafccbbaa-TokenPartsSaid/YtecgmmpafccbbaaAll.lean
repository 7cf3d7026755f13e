/- The walk of the law TokenAll. -/
import Derived.Test.YtecgmmpafccbbaaSteps
namespace Go.Proofs.Ytecgmmpafccbbaa
open Go.RowKit
set_option linter.unusedVariables false
set_option linter.unusedSimpArgs false

def capV (v : Int) : Int := if v < 2147483647 then v else 0
def capB (v : Int) : Bool := decide (v < 2147483647)
theorem capB_lt (v : Int) (h : v < 2147483647) : capB v = true := decide_eq_true h
theorem capB_ge (v : Int) (h : ¬ v < 2147483647) : capB v = false := decide_eq_false h
theorem capV_lt (v : Int) (h : v < 2147483647) : capV v = v := if_pos h
theorem capV_ge (v : Int) (h : ¬ v < 2147483647) : capV v = 0 := if_neg h

/-- what both Numbers answer -/
def numV (s : ByteArray) : Int := match s.data.toList with
  | [a, b, c, d] => capV (numI a b c d)
  | _ => 0
def numB (s : ByteArray) : Bool := match s.data.toList with
  | [a, b, c, d] => capB (numI a b c d)
  | _ => false

theorem numV_four (a b c d : UInt8) : numV ⟨#[a, b, c, d]⟩ = capV (numI a b c d) := rfl
theorem numB_four (a b c d : UInt8) : numB ⟨#[a, b, c, d]⟩ = capB (numI a b c d) := rfl
theorem numV_ne (s : ByteArray) (h : s.size ≠ 4) : numV s = 0 ∧ numB s = false := by
  unfold numV numB
  have hl : s.data.toList.length ≠ 4 := by simpa using h
  constructor <;> split <;> simp_all

theorem number_any (s : ByteArray) (w : World) :
    Calls Try.prog 15 #[.string s] w fun e w' => e = .returned (.tuple #[.int .i64 (numV s), .bool (numB s)]) ∧ w = w' := by
  by_cases h : s.size = 4
  · obtain ⟨a, b, c, d, rfl⟩ := four_of s h
    by_cases hn : numI a b c d < 2147483647
    · have e1 : numV ⟨#[a, b, c, d]⟩ = numI a b c d := (numV_four a b c d).trans (capV_lt _ hn)
      have e2 : numB ⟨#[a, b, c, d]⟩ = true := (numB_four a b c d).trans (capB_lt _ hn)
      rw [e1, e2]; exact number_yes a b c d w hn
    · have e1 : numV ⟨#[a, b, c, d]⟩ = 0 := (numV_four a b c d).trans (capV_ge _ hn)
      have e2 : numB ⟨#[a, b, c, d]⟩ = false := (numB_four a b c d).trans (capB_ge _ hn)
      rw [e1, e2]; exact number_no a b c d w hn
  · obtain ⟨e1, e2⟩ := numV_ne s h
    rw [e1, e2]; exact number_short s w h

theorem refnumber_any (s : ByteArray) (w : World) :
    Calls Try.prog 16 #[.string s] w fun e w' => e = .returned (.tuple #[.int .i64 (numV s), .bool (numB s)]) ∧ Below w.heap.size w w' := by
  by_cases h : s.size = 4
  · obtain ⟨a, b, c, d, rfl⟩ := four_of s h
    by_cases hn : numI a b c d < 2147483647
    · have e1 : numV ⟨#[a, b, c, d]⟩ = numI a b c d := (numV_four a b c d).trans (capV_lt _ hn)
      have e2 : numB ⟨#[a, b, c, d]⟩ = true := (numB_four a b c d).trans (capB_lt _ hn)
      rw [e1, e2]; exact refnumber_yes a b c d w hn
    · have e1 : numV ⟨#[a, b, c, d]⟩ = 0 := (numV_four a b c d).trans (capV_ge _ hn)
      have e2 : numB ⟨#[a, b, c, d]⟩ = false := (numB_four a b c d).trans (capB_ge _ hn)
      rw [e1, e2]; exact refnumber_no a b c d w hn
  · obtain ⟨e1, e2⟩ := numV_ne s h
    rw [e1, e2]; exact (refnumber_short s w h).mono fun _ _ ⟨he, hw⟩ => ⟨he, hw ▸ Below.refl _ _⟩

set_option maxHeartbeats 1000000 in
theorem all_far (a0 : ByteArray) (t : Int) (w : World) (h : 2000 < a0.size) :
    Calls Try.prog 4 #[.string a0, .int .i64 t] w fun e w' => e = .returned (.bool true) ∧ Below w.heap.size w w' := by
  go_enter Try.func4, Try.ntmps4
  go_wp2_with (first | (go_at_call 11; refine (awake_any _).mono ?_; rintro e w' ⟨rfl, hb⟩))
  go_ret
  exact ⟨rfl, hb⟩

set_option maxHeartbeats 1000000 in
theorem all_near (a0 : ByteArray) (t : Int) (w : World) (h : a0.size ≤ 2000) :
    Calls Try.prog 4 #[.string a0, .int .i64 t] w fun e w' => e = .returned (.bool true) ∧ Below w.heap.size w w' := by
  go_enter Try.func4, Try.ntmps4
  go_wp2_with fail
  refine (number_any _ _).mono ?_
  rintro e w1 ⟨rfl, rfl⟩
  go_wp2_with fail
  refine (refnumber_any _ _).mono ?_
  rintro e w1 ⟨rfl, hb1⟩
  generalize numV a0 = nv at *
  generalize numB a0 = nb at *
  go_wp2_with fail
  refine (of_any _ _ (by unfold maxLen; omega)).mono ?_
  rintro e w2 ⟨rfl, hb2⟩
  replace hb2 := hb1.trans (hb2.mono hb1.size)
  clear hb1
  go_wp2_with fail
  refine (refof_any _ _ (by unfold maxLen; omega)).mono ?_
  rintro e w3 ⟨rfl, rfl⟩
  go_wp2_with fail
  refine (more_any _ _ _ (by unfold maxLen; omega)).mono ?_
  rintro e w3 ⟨rfl, hb3⟩
  replace hb3 := hb2.trans (hb3.mono hb2.size)
  clear hb2
  go_wp2_with fail
  refine (refmore_any _ _ _ (by unfold maxLen; omega)).mono ?_
  rintro e w4 ⟨rfl, rfl⟩
  go_wp2_with fail
  refine (bytes_any _ _).mono ?_
  rintro e w4 ⟨rfl, hb4⟩
  replace hb4 := hb3.trans (hb4.mono hb3.size)
  clear hb3
  go_wp2_with fail
  refine (refbytes_any _ _).mono ?_
  rintro e w5 ⟨rfl, hb5⟩
  replace hb5 := hb4.trans (hb5.mono hb4.size)
  clear hb4
  go_wp2_with fail
  refine (awake_any _).mono ?_
  rintro e w6 ⟨rfl, hb6⟩
  replace hb6 := hb5.trans (hb6.mono hb5.size)
  go_wp2_with fail
  go_ret
  exact ⟨rfl, hb6⟩

theorem all_walk (a0 : ByteArray) (t : Int) (w : World) :
    Calls Try.prog 4 #[.string a0, .int .i64 t] w fun e w' => e = .returned (.bool true) ∧ Below w.heap.size w w' := by
  by_cases h : a0.size ≤ 2000
  · exact all_near a0 t w h
  · exact all_far a0 t w (by omega)

end Go.Proofs.Ytecgmmpafccbbaa
