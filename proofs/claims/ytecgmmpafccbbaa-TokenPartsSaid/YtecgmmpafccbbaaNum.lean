/- The walk of the law TokenNumbers. -/
import Derived.Test.YtecgmmpafccbbaaAll
namespace Go.Proofs.Ytecgmmpafccbbaa
open Go.RowKit
set_option linter.unusedVariables false
set_option linter.unusedSimpArgs false

theorem byteS_four (t : Int) (h0 : 0 ≤ t) (h1 : t < 2147483647) : ∃ a b c d : UInt8, byteS t = ⟨#[a, b, c, d]⟩ ∧ numI a b c d = t := by
  refine ⟨UInt8.ofNat (t / 16777216).toNat, UInt8.ofNat (t / 65536 % 256).toNat, UInt8.ofNat (t / 256 % 256).toNat, UInt8.ofNat (t % 256).toNat, rfl, ?_⟩
  have e1 : ((UInt8.ofNat (t / 16777216).toNat).toNat : Int) = t / 16777216 := by simp; omega
  have e2 : ((UInt8.ofNat (t / 65536 % 256).toNat).toNat : Int) = t / 65536 % 256 := by simp; omega
  have e3 : ((UInt8.ofNat (t / 256 % 256).toNat).toNat : Int) = t / 256 % 256 := by simp; omega
  have e4 : ((UInt8.ofNat (t % 256).toNat).toNat : Int) = t % 256 := by simp; omega
  unfold numI
  rw [e1, e2, e3, e4]
  omega

theorem numI_inj (a b c d : UInt8) (h : numI a b c d < 2147483647) : byteS (numI a b c d) = ⟨#[a, b, c, d]⟩ := by
  have b0 := a.toNat_lt
  have b1 := b.toNat_lt
  have b2 := c.toNat_lt
  have b3 := d.toNat_lt
  have e1 : (numI a b c d / 16777216).toNat = a.toNat := by unfold numI; omega
  have e2 : (numI a b c d / 65536 % 256).toNat = b.toNat := by unfold numI; omega
  have e3 : (numI a b c d / 256 % 256).toNat = c.toNat := by unfold numI; omega
  have e4 : (numI a b c d % 256).toNat = d.toNat := by unfold numI; omega
  unfold byteS strOfNums
  simp only [List.map_cons, List.map_nil, e1, e2, e3, e4]
  simp

theorem numI_bounds (a b c d : UInt8) : 0 ≤ numI a b c d ∧ numI a b c d < 4294967296 := by
  have b0 := a.toNat_lt
  have b1 := b.toNat_lt
  have b2 := c.toNat_lt
  have b3 := d.toNat_lt
  unfold numI; omega

/-- four bytes that are no number: the first is 128 or more, or they are the ring's own -/
theorem numI_no (a b c d : UInt8) (h : ¬ numI a b c d < 2147483647) : 128 ≤ a.toNat ∨ (a = 127 ∧ b = 255 ∧ c = 255 ∧ d = 255) := by
  have b0 := a.toNat_lt
  have b1 := b.toNat_lt
  have b2 := c.toNat_lt
  have b3 := d.toNat_lt
  by_cases ha : 128 ≤ a.toNat
  · exact .inl ha
  · right
    have : a.toNat = 127 ∧ b.toNat = 255 ∧ c.toNat = 255 ∧ d.toNat = 255 := by unfold numI at h; omega
    refine ⟨?_, ?_, ?_, ?_⟩ <;> (apply UInt8.toNat_inj.1; simp [this])

theorem number_bytes (t : Int) (h0 : 0 ≤ t) (h1 : t < 2147483647) (w : World) :
    Calls Try.prog 15 #[.string (byteS t)] w fun e w' => e = .returned (.tuple #[.int .i64 t, .bool true]) ∧ w = w' := by
  obtain ⟨a, b, c, d, e1, e2⟩ := byteS_four t h0 h1
  subst e2
  rw [e1]
  exact number_yes a b c d w h1
theorem byteS_size (t : Int) : (byteS t).size = 4 := rfl

set_option maxHeartbeats 1000000 in
theorem numbers_far (t : Int) (s : ByteArray) (w : World) (h : 10 < s.size) :
    Calls Try.prog 6 #[.int .i64 t, .string s] w fun e w' => e = .returned (.bool true) ∧ Below w.heap.size w w' := by
  go_enter Try.func6, Try.ntmps6
  go_wp2_with (first | (go_at_call 11; refine (awake_any _).mono ?_; rintro e w' ⟨rfl, hb⟩))
  go_ret
  exact ⟨rfl, hb⟩

theorem cutI_cases (t : Int) : (t < 0 ∧ cutI t = 0) ∨ (2147483646 < t ∧ cutI t = 2147483646) ∨ (0 ≤ t ∧ t ≤ 2147483646 ∧ cutI t = t) := by unfold cutI; omega

theorem bytes_num (a b c d : UInt8) (h : numI a b c d < 2147483647) (w : World) :
    Calls Try.prog 19 #[.int .i64 (numI a b c d)] w fun e w' => e = .returned (.string ⟨#[a, b, c, d]⟩) ∧ Below w.heap.size w w' := by
  have := bytes_any (numI a b c d) w
  rw [cutI_of _ (numI_bounds a b c d).1 h, numI_inj a b c d h] at this
  exact this

theorem byte_ge (a : UInt8) (h : 128 ≤ a.toNat) : (decide ((128 : Int) ≤ (a.toNat : Int))) = true := by simp; omega

set_option maxHeartbeats 2000000 in
theorem numbers_short (t : Int) (s : ByteArray) (w : World) (h : s.size ≤ 10) (hs : s.size ≠ 4) :
    Calls Try.prog 6 #[.int .i64 t, .string s] w fun e w' => e = .returned (.bool true) ∧ Below w.heap.size w w' := by
  have hn : ((s.size : Int) != 4) = true := by simp; omega
  go_enter Try.func6, Try.ntmps6
  go_wp2_with fail
  refine (bytes_any _ _).mono ?_
  rintro e w1 ⟨rfl, hb1⟩
  have hz := byteS_size (cutI t)
  go_wp2_with fail
  refine (number_bytes _ (cutI_nonneg t) (cutI_lt t) _).mono ?_
  rintro e w1 ⟨rfl, rfl⟩
  generalize byteS (cutI t) = bs at *
  rcases cutI_cases t with ⟨ht, hv⟩ | ⟨ht, hv⟩ | ⟨ht, ht2, hv⟩
  all_goals
    go_wp2_with fail
    refine (number_short _ _ hs).mono ?_
    rintro e w2 ⟨rfl, rfl⟩
    go_wp2_with fail
    refine (awake_any _).mono ?_
    rintro e w2 ⟨rfl, hb2⟩
    go_wp2_with fail
    go_ret
    exact ⟨rfl, hb1.trans (hb2.mono hb1.size)⟩

set_option maxHeartbeats 2000000 in
theorem numbers_high (t : Int) (a b c d : UInt8) (w : World) (h : ¬ numI a b c d < 2147483647) (ha : 128 ≤ a.toNat) :
    Calls Try.prog 6 #[.int .i64 t, .string ⟨#[a, b, c, d]⟩] w fun e w' => e = .returned (.bool true) ∧ Below w.heap.size w w' := by
  have i0 := ix4_0 a b c d
  have hge := byte_ge a ha
  have hH := Lib.hid h
  clear ha h
  go_enter Try.func6, Try.ntmps6
  go_wp2_with fail
  refine (bytes_any _ _).mono ?_
  rintro e w1 ⟨rfl, hb1⟩
  have hz := byteS_size (cutI t)
  go_wp2_with fail
  refine (number_bytes _ (cutI_nonneg t) (cutI_lt t) _).mono ?_
  rintro e w1 ⟨rfl, rfl⟩
  generalize byteS (cutI t) = bs at *
  rcases cutI_cases t with ⟨ht, hv⟩ | ⟨ht, hv⟩ | ⟨ht, ht2, hv⟩
  all_goals
    go_wp2_with fail
    refine (number_no a b c d _ (Int.not_lt.2 hH.out)).mono ?_
    rintro e w2 ⟨rfl, rfl⟩
    go_wp2_with fail
    refine (awake_any _).mono ?_
    rintro e w2 ⟨rfl, hb2⟩
    go_wp2_with fail
    go_ret
    exact ⟨rfl, hb1.trans (hb2.mono hb1.size)⟩

set_option maxHeartbeats 2000000 in
theorem numbers_ring (t : Int)  (w : World)  :
    Calls Try.prog 6 #[.int .i64 t, .string ⟨#[127, 255, 255, 255]⟩] w fun e w' => e = .returned (.bool true) ∧ Below w.heap.size w w' := by
  have i0 := ix4_0 127 255 255 255
  go_enter Try.func6, Try.ntmps6
  go_wp2_with fail
  refine (bytes_any _ _).mono ?_
  rintro e w1 ⟨rfl, hb1⟩
  have hz := byteS_size (cutI t)
  go_wp2_with fail
  refine (number_bytes _ (cutI_nonneg t) (cutI_lt t) _).mono ?_
  rintro e w1 ⟨rfl, rfl⟩
  generalize byteS (cutI t) = bs at *
  rcases cutI_cases t with ⟨ht, hv⟩ | ⟨ht, hv⟩ | ⟨ht, ht2, hv⟩
  all_goals
    go_wp2_with fail
    refine (number_no 127 255 255 255 _ (by decide)).mono ?_
    rintro e w2 ⟨rfl, rfl⟩
    go_wp2_with fail
    refine (awake_any _).mono ?_
    rintro e w2 ⟨rfl, hb2⟩
    go_wp2_with fail
    go_ret
    exact ⟨rfl, hb1.trans (hb2.mono hb1.size)⟩

set_option maxHeartbeats 2000000 in
theorem numbers_yes (t : Int) (a b c d : UInt8) (w : World) (h : numI a b c d < 2147483647) :
    Calls Try.prog 6 #[.int .i64 t, .string ⟨#[a, b, c, d]⟩] w fun e w' => e = .returned (.bool true) ∧ Below w.heap.size w w' := by
  have hH := Lib.hid h
  clear h
  go_enter Try.func6, Try.ntmps6
  go_wp2_with fail
  refine (bytes_any _ _).mono ?_
  rintro e w1 ⟨rfl, hb1⟩
  have hz := byteS_size (cutI t)
  go_wp2_with fail
  refine (number_bytes _ (cutI_nonneg t) (cutI_lt t) _).mono ?_
  rintro e w1 ⟨rfl, rfl⟩
  generalize byteS (cutI t) = bs at *
  rcases cutI_cases t with ⟨ht, hv⟩ | ⟨ht, hv⟩ | ⟨ht, ht2, hv⟩
  all_goals
    go_wp2_with fail
    refine (number_yes a b c d _ hH.out).mono ?_
    rintro e w2 ⟨rfl, rfl⟩
    have hx := bytes_num a b c d hH.out w1
    obtain ⟨v0, v1⟩ := numI_bounds a b c d
    have v2 := hH.out
    generalize numI a b c d = v at *
    go_wp2_with fail
    refine hx.mono ?_
    rintro e w2 ⟨rfl, hb2⟩
    clear hx
    go_wp2_with fail
    refine (awake_any _).mono ?_
    rintro e w3 ⟨rfl, hb3⟩
    go_wp2_with fail
    go_ret
    have h2 := hb1.trans (hb2.mono hb1.size)
    exact ⟨rfl, h2.trans (hb3.mono h2.size)⟩

theorem numbers_walk (t : Int) (s : ByteArray) (w : World) :
    Calls Try.prog 6 #[.int .i64 t, .string s] w fun e w' => e = .returned (.bool true) ∧ Below w.heap.size w w' := by
  by_cases h : s.size ≤ 10
  · by_cases hs : s.size = 4
    · obtain ⟨a, b, c, d, rfl⟩ := four_of s hs
      by_cases hn : numI a b c d < 2147483647
      · exact numbers_yes t a b c d w hn
      · rcases numI_no a b c d hn with ha | ⟨rfl, rfl, rfl, rfl⟩
        · exact numbers_high t a b c d w hn ha
        · exact numbers_ring t w
    · exact numbers_short t s w h hs
  · exact numbers_far t s w (by omega)

end Go.Proofs.Ytecgmmpafccbbaa
