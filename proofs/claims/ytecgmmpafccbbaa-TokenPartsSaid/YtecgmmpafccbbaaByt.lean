/- The contracts of token.Bytes, token.Number and of the reference's. -/
import Derived.Test.YtecgmmpafccbbaaTok
import Derived.Laws.BytesArg
import Derived.LoopN
import Derived.Deep.QuietTactic
import Derived.BigQuiet
namespace Go.Proofs.Ytecgmmpafccbbaa
open Go.RowKit
set_option linter.unusedVariables false
set_option linter.unusedSimpArgs false

/-- four bytes in one new block, as a text -/
theorem conv4 (E : TypeId) (a b c d : Int) (w : World) :
    (convert 24 9 (.slice (some ⟨w.heap.size, 0, none⟩) 4 4)).run Try.prog (w.alloc (.cells #[.int .u8 a, .int .u8 b, .int .u8 c, .int .u8 d] E)) = .ok (.string (strOfNums [a, b, c, d])) (w.alloc (.cells #[.int .u8 a, .int .u8 b, .int .u8 c, .int .u8 d] E)) :=
  run_convert_bytes_arg _ 24 5 Try.underlying24 Try.underlying5 w.heap.size 0 4 4 [a, b, c, d] rfl (fun i hi => by
    match i, hi with
    | 0, _ => simp
    | 1, _ => simp
    | 2, _ => simp
    | 3, _ => simp) 9 Try.underlying9

/-- the four bytes of a place -/
def byteS (t : Int) : ByteArray := strOfNums [t / 16777216, t / 65536 % 256, t / 256 % 256, t % 256]

set_option maxHeartbeats 400000 in
theorem refbytes_any (t : Int) (w : World) :
    Calls Try.prog 20 #[.int .i64 t] w fun e w' => e = .returned (.string (byteS (cutI t))) ∧ Below w.heap.size w w' := by
  have c0 := cutI_nonneg t
  have c1 := cutI_lt t
  have kc := fun E a b c d => conv4 E a b c d w
  go_enter Try.func20, Try.ntmps20
  go_wp2_with (first | (go_at_call 37; refine (refcut_any _ _).mono ?_; rintro e w' ⟨rfl, rfl⟩))
  go_ret
  exact ⟨rfl, (Below.refl _ _).alloc (Nat.le_refl _) _⟩

set_option maxHeartbeats 1000000 in
theorem bytes_any (t : Int) (w : World) :
    Calls Try.prog 19 #[.int .i64 t] w fun e w' => e = .returned (.string (byteS (cutI t))) ∧ Below w.heap.size w w' := by
  have c0 := cutI_nonneg t
  have c1 := cutI_lt t
  have kc := fun E a b c d => conv4 E a b c d w
  go_enter Try.func19, Try.ntmps19
  go_wp2_with (first | (go_at_call 35; refine (cut_any _ _).mono ?_; rintro e w' ⟨rfl, rfl⟩))
  refine wp_loop_rounds 5 ?_
  rw [rounds_succ]; go_wp2
  rw [rounds_succ]; go_wp2
  rw [rounds_succ]; go_wp2
  rw [rounds_succ]; go_wp2
  rw [rounds_succ]; go_wp2
  go_ret
  exact ⟨rfl, (Below.refl _ _).alloc (Nat.le_refl _) _⟩

theorem wraps_i64_40 : ∀ n : Int, 0 ≤ n → n < 2 ^ 40 → IntKind.i64.wrap n = n := fun n h0 h1 => IntWalk.i64_in n (by omega)
theorem or64_0 (y : Int) (h0 : 0 ≤ y) (h1 : y < 256) : bits .or .i64 0 y = y := by
  have := bits_join .i64 40 (by decide) wraps_i64_40 8 0 y (by decide) (by decide) (by decide) h0 (by omega) (by omega)
  simpa using this
theorem or64_8 (x y : Int) (hx0 : 0 ≤ x) (hx1 : x < 4294967296) (h0 : 0 ≤ y) (h1 : y < 256) : bits .or .i64 (x * 256) y = x * 256 + y :=
  bits_join .i64 40 (by decide) wraps_i64_40 8 (x * 256) y (by omega) (by simp [Int.mul_emod_left]) (by omega) h0 (by omega) (by omega)
theorem or64_16 (x y : Int) (hx0 : 0 ≤ x) (hx1 : x < 16777216) (h0 : 0 ≤ y) (h1 : y < 65536) : bits .or .i64 (x * 65536) y = x * 65536 + y :=
  bits_join .i64 40 (by decide) wraps_i64_40 16 (x * 65536) y (by omega) (by simp [Int.mul_emod_left]) (by omega) h0 (by omega) (by omega)

/-- the number that four bytes are -/
def numI (a b c d : UInt8) : Int := ((a.toNat * 256 + b.toNat) * 256 + c.toNat) * 256 + d.toNat

theorem four_of (s : ByteArray) (hs : s.size = 4) : ∃ a b c d : UInt8, s = ⟨#[a, b, c, d]⟩ := by
  obtain ⟨⟨l⟩⟩ := s
  match l, hs with
  | [a, b, c, d], _ => exact ⟨a, b, c, d, rfl⟩


theorem ix4_0 (a b c d : UInt8) : (⟨#[a, b, c, d]⟩ : ByteArray)[0]'(by simp [ByteArray.size]) = a := rfl
theorem ix4_1 (a b c d : UInt8) : (⟨#[a, b, c, d]⟩ : ByteArray)[1]'(by simp [ByteArray.size]) = b := rfl
theorem ix4_2 (a b c d : UInt8) : (⟨#[a, b, c, d]⟩ : ByteArray)[2]'(by simp [ByteArray.size]) = c := rfl
theorem ix4_3 (a b c d : UInt8) : (⟨#[a, b, c, d]⟩ : ByteArray)[3]'(by simp [ByteArray.size]) = d := rfl

set_option maxHeartbeats 1000000 in
theorem number_yes (a b c d : UInt8) (w : World) (h : numI a b c d < 2147483647) :
    Calls Try.prog 15 #[.string ⟨#[a, b, c, d]⟩] w fun e w' => e = .returned (.tuple #[.int .i64 (numI a b c d), .bool true]) ∧ w = w' := by
  have i0 := ix4_0 a b c d
  have i1 := ix4_1 a b c d
  have i2 := ix4_2 a b c d
  have i3 := ix4_3 a b c d
  have b0 : (a.toNat : Int) < 256 := by have := a.toNat_lt; omega
  have b1 : (b.toNat : Int) < 256 := by have := b.toNat_lt; omega
  have b2 : (c.toNat : Int) < 256 := by have := c.toNat_lt; omega
  have b3 : (d.toNat : Int) < 256 := by have := d.toNat_lt; omega
  have e0 := or64_0 a.toNat (by omega) b0
  have e1 := or64_8 a.toNat b.toNat (by omega) (by omega) (by omega) b1
  have e2 := or64_8 (a.toNat * 256 + b.toNat) c.toNat (by omega) (by omega) (by omega) b2
  have e3 : bits .or .i64 (((a.toNat * 256 + b.toNat) * 256 + c.toNat) * 256) d.toNat = numI a b c d := or64_8 ((a.toNat * 256 + b.toNat) * 256 + c.toNat) d.toNat (by omega) (by omega) (by omega) b3
  generalize numI a b c d = v at *
  have hd : decide (2147483647 ≤ v) = false := by simp; omega
  clear h
  go_enter Try.func15, Try.ntmps15
  go_wp2
  refine wp_loop_rounds 5 ?_
  rw [rounds_succ]; go_wp2
  rw [rounds_succ]; go_wp2
  rw [rounds_succ]; go_wp2
  rw [rounds_succ]; go_wp2
  rw [rounds_succ]; go_wp2
  go_ret2
  exact ⟨rfl, rfl⟩

set_option maxHeartbeats 1000000 in
theorem number_no (a b c d : UInt8) (w : World) (h : ¬ numI a b c d < 2147483647) :
    Calls Try.prog 15 #[.string ⟨#[a, b, c, d]⟩] w fun e w' => e = .returned (.tuple #[.int .i64 0, .bool false]) ∧ w = w' := by
  have i0 := ix4_0 a b c d
  have i1 := ix4_1 a b c d
  have i2 := ix4_2 a b c d
  have i3 := ix4_3 a b c d
  have b0 : (a.toNat : Int) < 256 := by have := a.toNat_lt; omega
  have b1 : (b.toNat : Int) < 256 := by have := b.toNat_lt; omega
  have b2 : (c.toNat : Int) < 256 := by have := c.toNat_lt; omega
  have b3 : (d.toNat : Int) < 256 := by have := d.toNat_lt; omega
  have e0 := or64_0 a.toNat (by omega) b0
  have e1 := or64_8 a.toNat b.toNat (by omega) (by omega) (by omega) b1
  have e2 := or64_8 (a.toNat * 256 + b.toNat) c.toNat (by omega) (by omega) (by omega) b2
  have e3 : bits .or .i64 (((a.toNat * 256 + b.toNat) * 256 + c.toNat) * 256) d.toNat = numI a b c d := or64_8 ((a.toNat * 256 + b.toNat) * 256 + c.toNat) d.toNat (by omega) (by omega) (by omega) b3
  generalize numI a b c d = v at *
  have hd : decide (2147483647 ≤ v) = true := by simp; omega
  clear h
  go_enter Try.func15, Try.ntmps15
  go_wp2
  refine wp_loop_rounds 5 ?_
  rw [rounds_succ]; go_wp2
  rw [rounds_succ]; go_wp2
  rw [rounds_succ]; go_wp2
  rw [rounds_succ]; go_wp2
  rw [rounds_succ]; go_wp2
  go_ret2
  exact ⟨rfl, rfl⟩

set_option maxHeartbeats 400000 in
theorem number_short (s : ByteArray) (w : World) (hs : s.size ≠ 4) :
    Calls Try.prog 15 #[.string s] w fun e w' => e = .returned (.tuple #[.int .i64 0, .bool false]) ∧ w = w' := by
  have hn : ((s.size : Int) != 4) = true := by simp; omega
  go_enter Try.func15, Try.ntmps15
  go_wp2
  go_ret2
  exact ⟨rfl, rfl⟩

set_option maxHeartbeats 400000 in
theorem refnumber_short (s : ByteArray) (w : World) (hs : s.size ≠ 4) :
    Calls Try.prog 16 #[.string s] w fun e w' => e = .returned (.tuple #[.int .i64 0, .bool false]) ∧ w = w' := by
  have hn : ((s.size : Int) != 4) = true := by simp; omega
  go_enter Try.func16, Try.ntmps16
  go_wp2
  go_ret2
  exact ⟨rfl, rfl⟩


theorem or4 (a b c d : UInt8) : bits .or .i64 (bits .or .i64 (bits .or .i64 ((a.toNat : Int) * 16777216) ((b.toNat : Int) * 65536)) ((c.toNat : Int) * 256)) (d.toNat : Int) = numI a b c d := by
  have b0 : (a.toNat : Int) < 256 := by have := a.toNat_lt; omega
  have b1 : (b.toNat : Int) < 256 := by have := b.toNat_lt; omega
  have b2 : (c.toNat : Int) < 256 := by have := c.toNat_lt; omega
  have b3 : (d.toNat : Int) < 256 := by have := d.toNat_lt; omega
  have h1 := bits_join .i64 40 (by decide) wraps_i64_40 24 ((a.toNat : Int) * 16777216) ((b.toNat : Int) * 65536) (by omega) (by simp [Int.mul_emod_left]) (by omega) (by omega) (by omega) (by omega)
  have h2 := bits_join .i64 40 (by decide) wraps_i64_40 16 ((a.toNat : Int) * 16777216 + (b.toNat : Int) * 65536) ((c.toNat : Int) * 256) (by omega) (by omega) (by omega) (by omega) (by omega) (by omega)
  have h3 := bits_join .i64 40 (by decide) wraps_i64_40 8 ((a.toNat : Int) * 16777216 + (b.toNat : Int) * 65536 + (c.toNat : Int) * 256) (d.toNat : Int) (by omega) (by omega) (by omega) (by omega) (by omega) (by omega)
  rw [h1, h2, h3]
  unfold numI
  omega

set_option maxHeartbeats 1000000 in
theorem refnumber_yes (a b c d : UInt8) (w : World) (h : numI a b c d < 2147483647) :
    Calls Try.prog 16 #[.string ⟨#[a, b, c, d]⟩] w fun e w' => e = .returned (.tuple #[.int .i64 (numI a b c d), .bool true]) ∧ Below w.heap.size w w' := by
  have i0 := ix4_0 a b c d
  have i1 := ix4_1 a b c d
  have i2 := ix4_2 a b c d
  have i3 := ix4_3 a b c d
  have b0 : (a.toNat : Int) < 256 := by have := a.toNat_lt; omega
  have b1 : (b.toNat : Int) < 256 := by have := b.toNat_lt; omega
  have b2 : (c.toNat : Int) < 256 := by have := c.toNat_lt; omega
  have b3 : (d.toNat : Int) < 256 := by have := d.toNat_lt; omega
  have eo := or4 a b c d
  generalize numI a b c d = v at *
  have hd : decide (2147483647 ≤ v) = false := by simp; omega
  clear h
  go_enter Try.func16, Try.ntmps16
  go_wp2
  go_quiet (fail)
  go_wp2
  go_ret2
  exact ⟨rfl, below_drewN (Below.refl _ _) _⟩

set_option maxHeartbeats 1000000 in
theorem refnumber_no (a b c d : UInt8) (w : World) (h : ¬ numI a b c d < 2147483647) :
    Calls Try.prog 16 #[.string ⟨#[a, b, c, d]⟩] w fun e w' => e = .returned (.tuple #[.int .i64 0, .bool false]) ∧ Below w.heap.size w w' := by
  have i0 := ix4_0 a b c d
  have i1 := ix4_1 a b c d
  have i2 := ix4_2 a b c d
  have i3 := ix4_3 a b c d
  have b0 : (a.toNat : Int) < 256 := by have := a.toNat_lt; omega
  have b1 : (b.toNat : Int) < 256 := by have := b.toNat_lt; omega
  have b2 : (c.toNat : Int) < 256 := by have := c.toNat_lt; omega
  have b3 : (d.toNat : Int) < 256 := by have := d.toNat_lt; omega
  have eo := or4 a b c d
  generalize numI a b c d = v at *
  have hd : decide (2147483647 ≤ v) = true := by simp; omega
  clear h
  go_enter Try.func16, Try.ntmps16
  go_wp2
  go_quiet (fail)
  go_wp2
  go_ret2
  exact ⟨rfl, below_drewN (Below.refl _ _) _⟩

end Go.Proofs.Ytecgmmpafccbbaa
