/- The walk of the law RingBack, and of the example that all laws of package ring end with. -/
import Derived.Test.YtecgmmpafccbbaaPair
namespace Go.Proofs.Ytecgmmpafccbbaa
open Go.RowKit
set_option linter.unusedVariables false
set_option linter.unusedSimpArgs false

theorem owns_b0 (w : World) : Calls Try.prog 24 #[.agg #[.int .i64 2, .int .i64 2, .int .i64 1], .string ⟨#[98]⟩, .int .i64 0] w fun e w' => e = .returned (.bool true) ∧ Below w.heap.size w w' :=
  (owns_any 2 2 1 0 ⟨#[98]⟩ w (by decide)).mono fun _ _ h => h
theorem owns_b1 (w : World) : Calls Try.prog 24 #[.agg #[.int .i64 2, .int .i64 2, .int .i64 1], .string ⟨#[98]⟩, .int .i64 1] w fun e w' => e = .returned (.bool true) ∧ Below w.heap.size w w' :=
  (owns_any 2 2 1 1 ⟨#[98]⟩ w (by decide)).mono fun _ _ h => h
theorem check_221 (w : World) : Calls Try.prog 25 #[.agg #[.int .i64 2, .int .i64 2, .int .i64 1]] w fun e w' => e = .returned (.bool true) ∧ w.alloc (confO 2 2 1) = w' :=
  (check_any 2 2 1 w).mono fun _ _ h => h
theorem token_a (w : World) : Calls Try.prog 23 #[.string ⟨#[97]⟩] w fun e w' => e = .returned (.int .i64 355) ∧ w.alloc (tokO ⟨#[97]⟩) = w' :=
  (token_exact ⟨#[97]⟩ w (by decide)).mono fun _ _ h => h

/-- a configuration in a block that no call touches -/
def Conf3 (w : World) (B : Nat) (n c t : Int) : Prop := w.cell? ⟨B, 0, none⟩ = some (.int .i64 n) ∧ w.cell? ⟨B, 1, none⟩ = some (.int .i64 c) ∧ w.cell? ⟨B, 2, none⟩ = some (.int .i64 t) ∧ B < w.heap.size
theorem Conf3.keep {w w' : World} {B : Nat} {n c t : Int} (h : Conf3 w B n c t) (hb : Below w.heap.size w w') : Conf3 w' B n c t := by
  obtain ⟨h0, h1, h2, h3⟩ := h
  exact ⟨((bcell hb).1 _ _ h3).trans h0, ((bcell hb).1 _ _ h3).trans h1, ((bcell hb).1 _ _ h3).trans h2, Nat.lt_of_lt_of_le h3 hb.size⟩
theorem Conf3.new (w : World) (n c t : Int) : Conf3 (w.alloc (.cells #[.int .i64 n, .int .i64 c, .int .i64 t] 35)) w.heap.size n c t :=
  ⟨by simp, by simp, by simp, by simp⟩
theorem Below.one {B : Nat} (w : World) (o : Obj) (h : B ≤ w.heap.size) : Below B w (w.alloc o) := (Below.refl _ _).alloc h _

set_option maxHeartbeats 400000 in
theorem awake20_any (w : World) :
    Calls Try.prog 21 #[] w fun e w' => e = .returned (.bool true) ∧ Below w.heap.size w w' := by
  go_enter Try.func21, Try.ntmps21
  go_wp2_with fail
  refine (owners_yes 2 2 1 _ _ (by decide) (by decide)).mono ?_
  rintro e w1 ⟨b, rfl, -, -, -, hb⟩
  have hc := (Conf3.new w 2 2 1).keep hb
  have HB := Lib.hid ((Below.one w _ (Nat.le_refl _)).trans (hb.mono (by simp)))
  have HC := Lib.hid hc
  obtain ⟨h0, h1, h2, h3⟩ := hc
  clear hb
  go_wp2_with fail
  refine (owns_b0 _).mono ?_
  rintro e w2 ⟨rfl, hb⟩
  clear h0 h1 h2 h3
  have hc := HC.out.keep hb
  have HB2 := Lib.hid (HB.out.trans (hb.mono HB.out.size))
  have HC2 := Lib.hid hc
  obtain ⟨h0, h1, h2, h3⟩ := hc
  clear hb HB HC
  go_wp2_with fail
  refine (owns_b1 _).mono ?_
  rintro e w3 ⟨rfl, hb⟩
  clear h0 h1 h2 h3
  have hc := HC2.out.keep hb
  have HB3 := Lib.hid (HB2.out.trans (hb.mono HB2.out.size))
  obtain ⟨h0, h1, h2, h3⟩ := hc
  clear hb HB2 HC2
  go_wp2_with fail
  refine (check_221 _).mono ?_
  rintro e w4 ⟨rfl, rfl⟩
  go_wp2_with fail
  refine (token_a _).mono ?_
  rintro e w4 ⟨rfl, rfl⟩
  go_wp2_with fail
  go_ret
  have h4 := HB3.out.alloc HB3.out.size (confO 2 2 1)
  exact ⟨rfl, h4.alloc h4.size _⟩

theorem pair_some (n c f x : Int) (hn : 0 < n) (hc : c ≤ n) (h : pairB n c f x = true) : ∃ k : Nat, (k : Int) < c ∧ own n c f k = x := by
  by_cases e : ∃ k : Nat, (k : Int) < c ∧ own n c f k = x
  · exact e
  · have := (pair_miss n c f 0 x hn hc (fun k hk he => e ⟨k, hk, he⟩)).1
    rw [this] at h
    exact absurd h (by decide)

/-- the pair of a pair is the node itself -/
theorem pair_back (n c f g x : Int) (hn : 0 < n) (hc : c ≤ n) (f0 : 0 ≤ f) (f1 : f < n) (g0 : 0 ≤ g) (g1 : g < n) (h : pairB n c f x = true) :
    pairB n c g (pairV n c f g x) = true ∧ pairV n c g f (pairV n c f g x) = x := by
  obtain ⟨k, hk, hx⟩ := pair_some n c f x hn hc h
  have e := (pair_hit n c f g x k hn hc f0 f1 hk hx).2
  have := pair_hit n c g f (pairV n c f g x) k hn hc g0 g1 hk e.symm
  rw [hx] at this
  exact this

theorem pair_same (n c f x : Int) (hn : 0 < n) (hc : c ≤ n) (f0 : 0 ≤ f) (f1 : f < n) (h : pairB n c f x = true) : pairV n c f f x = x := by
  obtain ⟨k, hk, hx⟩ := pair_some n c f x hn hc h
  rw [(pair_hit n c f f x k hn hc f0 f1 hk hx).2, hx]

theorem pairV_no (n c f g x : Int) (h : pairB n c f x = false) : pairV n c f g x = 0 := by unfold pairV; rw [h]; rfl

set_option maxHeartbeats 1000000 in
theorem back_far1 (a0 a1 a4 : Int) (s v : ByteArray) (w : World) (h : 300 < s.size) :
    Calls Try.prog 8 #[.int .i64 a0, .int .i64 a1, .string s, .string v, .int .i64 a4] w fun e w' => e = .returned (.bool true) ∧ Below w.heap.size w w' := by
  go_enter Try.func8, Try.ntmps8
  go_wp2_with fail
  refine (awake20_any _).mono ?_
  rintro e w1 ⟨rfl, hb⟩
  go_wp2_with fail
  go_ret
  exact ⟨rfl, hb⟩
set_option maxHeartbeats 1000000 in
theorem back_far2 (a0 a1 a4 : Int) (s v : ByteArray) (w : World) (hs : s.size ≤ 300) (h : 300 < v.size) :
    Calls Try.prog 8 #[.int .i64 a0, .int .i64 a1, .string s, .string v, .int .i64 a4] w fun e w' => e = .returned (.bool true) ∧ Below w.heap.size w w' := by
  go_enter Try.func8, Try.ntmps8
  go_wp2_with fail
  refine (awake20_any _).mono ?_
  rintro e w1 ⟨rfl, hb⟩
  go_wp2_with fail
  go_ret
  exact ⟨rfl, hb⟩

/-- what the laws make of two numbers: nodes and copies are one more than these -/
theorem nodes_of (a0 a1 : Int) : ∃ m k : Int, placeI a0 5 = m ∧ placeI a1 (1 + m) = k ∧ 0 ≤ m ∧ m ≤ 4 ∧ 0 ≤ k ∧ k ≤ m := by
  have h0 := placeI_nonneg a0 5 (by omega)
  have h1 := placeI_lt a0 5 (by omega)
  have h2 := placeI_nonneg a1 (1 + placeI a0 5) (by omega)
  have h3 := placeI_lt a1 (1 + placeI a0 5) (by omega)
  exact ⟨placeI a0 5, placeI a1 (1 + placeI a0 5), rfl, rfl, by omega, by omega, by omega, by omega⟩
theorem place_is (v n k : Int) (hk : placeI v n = k) (h0 : 0 < n) (hn : n ≤ 5) (w : World) :
    Calls Try.prog 13 #[.int .i64 v, .int .i64 n] w fun e w' => e = .returned (.int .i64 k) ∧ w = w' := by
  have := place_any v n w (by omega) (by omega)
  rw [hk] at this
  exact this

set_option maxHeartbeats 2000000 in
theorem back_no (a0 a1 x : Int) (s v : ByteArray) (m k : Int) (w : World) (hs : s.size ≤ 300) (hv : v.size ≤ 300) (hn : placeI a0 5 = m) (hc : placeI a1 (1 + m) = k) (n1 : 0 ≤ m) (n2 : m ≤ 4) (c1 : 0 ≤ k) (c2 : k ≤ m)
    (hok : pOk (1 + m) (1 + k) 1 s x = false) (hv0 : pVal (1 + m) (1 + k) 1 s v x = 0) :
    Calls Try.prog 8 #[.int .i64 a0, .int .i64 a1, .string s, .string v, .int .i64 x] w fun e w' => e = .returned (.bool true) ∧ Below w.heap.size w w' := by
  have hA := fun w => pair_any (1 + m) (1 + k) 1 x s v w (by omega) (by omega)
  have hB := fun w => back_any (1 + m) (1 + k) 1 x v s w (by omega) (by omega)
  have hO := fun w => owns_any (1 + m) (1 + k) 1 x s w (by omega)
  rw [hok] at hO
  rw [hok, hv0] at hA hB
  have HA := Lib.hid hA
  have HB := Lib.hid hB
  have HO := Lib.hid hO
  have HN := Lib.hid hn
  have HC := Lib.hid hc
  clear hA hB hO hn hc hok hv0
  go_enter Try.func8, Try.ntmps8
  go_wp2_with fail
  refine (place_is _ _ _ HN.out (by omega) (by omega) _).mono ?_
  rintro e w1 ⟨rfl, rfl⟩
  go_wp2_with fail
  refine (place_is _ _ _ HC.out (by omega) (by omega) _).mono ?_
  rintro e w1 ⟨rfl, rfl⟩
  go_wp2_with fail
  refine (HA.out _).mono ?_
  rintro e w1 ⟨rfl, hb⟩
  have hc := (Conf3.new w (1 + m) (1 + k) 1).keep hb
  have B1 := Lib.hid ((Below.one w _ (Nat.le_refl _)).trans (hb.mono (by simp)))
  have C1 := Lib.hid hc
  obtain ⟨h0, h1, h2, h3⟩ := hc
  clear hb
  go_wp2_with fail
  refine (HB.out _).mono ?_
  rintro e w2 ⟨rfl, hb⟩
  clear h0 h1 h2 h3
  have hc := C1.out.keep hb
  have B2 := Lib.hid (B1.out.trans (hb.mono B1.out.size))
  have C2 := Lib.hid hc
  obtain ⟨h0, h1, h2, h3⟩ := hc
  clear hb B1 C1
  go_wp2_with fail
  refine (HO.out _).mono ?_
  rintro e w3 ⟨rfl, hb⟩
  clear h0 h1 h2 h3
  have hc := C2.out.keep hb
  have B3 := Lib.hid (B2.out.trans (hb.mono B2.out.size))
  have C3 := Lib.hid hc
  obtain ⟨h0, h1, h2, h3⟩ := hc
  clear hb B2 C2
  go_wp2_with fail
  refine (awake20_any _).mono ?_
  rintro e w4 ⟨rfl, hb⟩
  go_wp2_with fail
  go_ret
  exact ⟨rfl, B3.out.trans (hb.mono B3.out.size)⟩

set_option maxHeartbeats 2000000 in
theorem back_yes (a0 a1 x : Int) (s v : ByteArray) (m k : Int) (w : World) (hs : s.size ≤ 300) (hv : v.size ≤ 300) (hn : placeI a0 5 = m) (hc : placeI a1 (1 + m) = k) (n1 : 0 ≤ m) (n2 : m ≤ 4) (c1 : 0 ≤ k) (c2 : k ≤ m)
    (hok : pOk (1 + m) (1 + k) 1 s x = true) (y : Int) (hy : pVal (1 + m) (1 + k) 1 s v x = y) (hok2 : pOk (1 + m) (1 + k) 1 v y = true) (hy2 : pVal (1 + m) (1 + k) 1 v s y = x) (hy3 : pVal (1 + m) (1 + k) 1 s s x = x) :
    Calls Try.prog 8 #[.int .i64 a0, .int .i64 a1, .string s, .string v, .int .i64 x] w fun e w' => e = .returned (.bool true) ∧ Below w.heap.size w w' := by
  have hA := fun w => pair_any (1 + m) (1 + k) 1 x s v w (by omega) (by omega)
  have hB := fun w => back_any (1 + m) (1 + k) 1 x v s w (by omega) (by omega)
  have hO := fun w => owns_any (1 + m) (1 + k) 1 x s w (by omega)
  have hD := fun w => pair_any (1 + m) (1 + k) 1 y v s w (by omega) (by omega)
  have hE := fun w => pair_any (1 + m) (1 + k) 1 x s s w (by omega) (by omega)
  rw [hok] at hO
  rw [hok, hy] at hA hB
  rw [hok2, hy2] at hD
  rw [hok, hy3] at hE
  have HA := Lib.hid hA
  have HB := Lib.hid hB
  have HO := Lib.hid hO
  have HN := Lib.hid hn
  have HC := Lib.hid hc
  have HD := Lib.hid hD
  have HE := Lib.hid hE
  clear hA hB hO hD hE hn hc hok hy hok2 hy2 hy3
  go_enter Try.func8, Try.ntmps8
  go_wp2_with fail
  refine (place_is _ _ _ HN.out (by omega) (by omega) _).mono ?_
  rintro e w1 ⟨rfl, rfl⟩
  go_wp2_with fail
  refine (place_is _ _ _ HC.out (by omega) (by omega) _).mono ?_
  rintro e w1 ⟨rfl, rfl⟩
  go_wp2_with fail
  refine (HA.out _).mono ?_
  rintro e w1 ⟨rfl, hb⟩
  have hc := (Conf3.new w (1 + m) (1 + k) 1).keep hb
  have B1 := Lib.hid ((Below.one w _ (Nat.le_refl _)).trans (hb.mono (by simp)))
  have C1 := Lib.hid hc
  obtain ⟨h0, h1, h2, h3⟩ := hc
  clear hb
  go_wp2_with fail
  refine (HB.out _).mono ?_
  rintro e w2 ⟨rfl, hb⟩
  clear h0 h1 h2 h3
  have hc := C1.out.keep hb
  have B2 := Lib.hid (B1.out.trans (hb.mono B1.out.size))
  have C2 := Lib.hid hc
  obtain ⟨h0, h1, h2, h3⟩ := hc
  clear hb B1 C1
  go_wp2_with fail
  refine (HO.out _).mono ?_
  rintro e w3 ⟨rfl, hb⟩
  clear h0 h1 h2 h3
  have hc := C2.out.keep hb
  have B3 := Lib.hid (B2.out.trans (hb.mono B2.out.size))
  have C3 := Lib.hid hc
  obtain ⟨h0, h1, h2, h3⟩ := hc
  clear hb B2 C2
  go_wp2_with fail
  refine (HD.out _).mono ?_
  rintro e w4 ⟨rfl, hb⟩
  clear h0 h1 h2 h3
  have hc := C3.out.keep hb
  have B4 := Lib.hid (B3.out.trans (hb.mono B3.out.size))
  have C4 := Lib.hid hc
  obtain ⟨h0, h1, h2, h3⟩ := hc
  clear hb B3 C3
  go_wp2_with fail
  refine (HE.out _).mono ?_
  rintro e w5 ⟨rfl, hb⟩
  clear h0 h1 h2 h3
  have B5 := Lib.hid (B4.out.trans (hb.mono B4.out.size))
  clear hb B4 C4
  go_wp2_with fail
  refine (awake20_any _).mono ?_
  rintro e w6 ⟨rfl, hb⟩
  go_wp2_with fail
  go_ret
  exact ⟨rfl, B5.out.trans (hb.mono B5.out.size)⟩

theorem back_walk (a0 a1 : Int) (s v : ByteArray) (x : Int) (w : World) :
    Calls Try.prog 8 #[.int .i64 a0, .int .i64 a1, .string s, .string v, .int .i64 x] w fun e w' => e = .returned (.bool true) ∧ Below w.heap.size w w' := by
  by_cases hs : s.size ≤ 300
  · by_cases hv : v.size ≤ 300
    · obtain ⟨m, k, hn, hc, n1, n2, c1, c2⟩ := nodes_of a0 a1
      have hk : chkB (1 + m) (1 + k) 1 = true := chkB_yes _ _ _ (by omega) (by omega) (by omega) (by omega) (by omega) (by omega)
      have f0 : 0 ≤ tokI s % (1 + m) := Int.emod_nonneg _ (by omega)
      have f1 : tokI s % (1 + m) < 1 + m := Int.emod_lt_of_pos _ (by omega)
      have g0 : 0 ≤ tokI v % (1 + m) := Int.emod_nonneg _ (by omega)
      have g1 : tokI v % (1 + m) < 1 + m := Int.emod_lt_of_pos _ (by omega)
      cases hb : pairB (1 + m) (1 + k) (tokI s % (1 + m)) x with
      | false =>
        refine back_no a0 a1 x s v m k w hs hv hn hc n1 n2 c1 c2 ?_ ?_
        · unfold pOk; rw [hk, hb]; rfl
        · unfold pVal; rw [if_pos hk]; exact pairV_no _ _ _ _ _ hb
      | true =>
        obtain ⟨e1, e2⟩ := pair_back (1 + m) (1 + k) (tokI s % (1 + m)) (tokI v % (1 + m)) x (by omega) (by omega) f0 f1 g0 g1 hb
        refine back_yes a0 a1 x s v m k w hs hv hn hc n1 n2 c1 c2 ?_ (pairV (1 + m) (1 + k) (tokI s % (1 + m)) (tokI v % (1 + m)) x) ?_ ?_ ?_ ?_
        · unfold pOk; rw [hk, hb]; rfl
        · unfold pVal; rw [if_pos hk]
        · unfold pOk; rw [hk, e1]; rfl
        · unfold pVal; rw [if_pos hk, e2]
        · unfold pVal; rw [if_pos hk]; exact pair_same _ _ _ _ (by omega) (by omega) f0 f1 hb
    · exact back_far2 a0 a1 x s v w hs (by omega)
  · exact back_far1 a0 a1 x s v w (by omega)

end Go.Proofs.Ytecgmmpafccbbaa
