/- The contracts of the reference's at, Owns, Pair, Bucket, and of SameInts. -/
import Derived.Test.YtecgmmpafccbbaaRef20
import Derived.Deep.QuietTactic
import Derived.BigQuiet
namespace Go.Proofs.Ytecgmmpafccbbaa
open Go.RowKit
set_option linter.unusedVariables false
set_option linter.unusedSimpArgs false

theorem pOk_off (n c t x : Int) (s : ByteArray) (h : chkB n c t = false) : pOk n c t s x = false := by unfold pOk; rw [h]; rfl

/-- which one of the owners a node is; below 0: none -/
def atI (n c f x : Int) : Int := if pairB n c f x then (x - f) % n else -1

theorem at_hit (n c f x : Int) (k : Nat) (hn : 0 < n) (hc : c ≤ n) (hf0 : 0 ≤ f) (hf1 : f < n) (hk : (k : Int) < c) (h : own n c f k = x) : atI n c f x = k := by
  have hb := (pair_hit n c f 0 x k hn hc hf0 hf1 hk h).1
  unfold atI
  rw [if_pos hb]
  have e : own n c f k = (f + k) % n := if_pos hk
  rw [e] at h
  rw [← h, Int.emod_sub_emod, show f + (k : Int) - f = k by omega]
  exact Int.emod_eq_of_lt (by omega) (by omega)
theorem at_miss (n c f x : Int) (hn : 0 < n) (hc : c ≤ n) (h : ∀ k : Nat, (k : Int) < c → own n c f k ≠ x) : atI n c f x = -1 := by
  unfold atI
  rw [(pair_miss n c f 0 x hn hc h).1]
  rfl

theorem Conf3.box (w w1 : World) (n c t : Int) (hb : Below (w.alloc (.cells #[.int .i64 n, .int .i64 c, .int .i64 t] 35)).heap.size (w.alloc (.cells #[.int .i64 n, .int .i64 c, .int .i64 t] 35)) w1) : Conf3 w1 w.heap.size n c t ∧ Below w.heap.size w w1 :=
  ⟨(Conf3.new w n c t).keep hb, (Below.one w _ (Nat.le_refl _)).trans (hb.mono (by simp))⟩

set_option maxHeartbeats 1000000 in
theorem refat_no (n c t x : Int) (s : ByteArray) (w : World) (hs : s.size ≤ 1000) (h : chkB n c t = false) :
    Calls Try.prog 39 #[.agg #[.int .i64 n, .int .i64 c, .int .i64 t], .string s, .int .i64 x] w fun e w' => e = .returned (.int .i64 (-1)) ∧ Below w.heap.size w w' := by
  have HR := Lib.hid (fun w => refowners_no n c t s w hs h)
  clear h
  go_enter Try.func39, Try.ntmps39
  go_wp2_with fail
  refine (HR.out _).mono ?_
  rintro e w1 ⟨rfl, hb⟩
  have HB := Lib.hid (Conf3.box w w1 n c t hb).2
  clear hb
  go_wp2_with fail
  refine wp_loop_rounds 1 ?_
  rw [rounds_succ]; go_wp2
  go_ret
  exact ⟨rfl, HB.out⟩

set_option maxHeartbeats 1000000 in
theorem refat_yes (n c t x : Int) (s : ByteArray) (w : World) (hs : s.size ≤ 1000) (h : chkB n c t = true) :
    Calls Try.prog 39 #[.agg #[.int .i64 n, .int .i64 c, .int .i64 t], .string s, .int .i64 x] w fun e w' => e = .returned (.int .i64 (atI n c (tokI s % n) x)) ∧ Below w.heap.size w w' := by
  obtain ⟨n1, n2, c1, c2, -, -⟩ := chkB_of n c t h
  have HR := Lib.hid (fun w => refowners_yes n c t s w hs h)
  have f0 : 0 ≤ tokI s % n := Int.emod_nonneg _ (by omega)
  have f1 : tokI s % n < n := Int.emod_lt_of_pos _ (by omega)
  clear h
  generalize tokI s % n = f at *
  go_enter Try.func39, Try.ntmps39
  go_wp2_with fail
  refine (HR.out _).mono ?_
  rintro e w1 ⟨b, L, cap, rfl, hL, hcell, -, -, hb⟩
  have HB := Lib.hid (Conf3.box w w1 n c t hb).2
  have HL := Lib.hid hL
  have HC := Lib.hid hcell
  clear hb hL hcell HR
  go_wp2_with fail
  go_loop [8] (fun i => ∃ k : Nat, k ≤ L ∧ i = .int .i64 k ∧ ∀ j : Nat, j < k → own n c f j ≠ x) (fun i => L - (intOf i).toNat)
  case atStart => exact ⟨0, by omega, rfl, fun j hj => absurd hj (Nat.not_lt_zero _)⟩
  case round =>
    obtain ⟨k, hk, rfl, hno⟩ := hrel
    have HN := Lib.hid hno
    clear hno
    have hLc := HL.out
    have hL5 : (L : Int) ≤ 5 := by omega
    by_cases hlt : k < L
    · have hcf := HC.out k hlt
      by_cases hx : own n c f k = x
      · have HE := Lib.hid (at_hit n c f x k (by omega) c2 f0 f1 (by omega) hx)
        have hx' : (own n c f k == x) = true := by simpa using hx
        clear hx hLc
        go_wp2
        go_ret
        exact ⟨ret_int HE.out.symm, HB.out⟩
      · have hx' : (own n c f k == x) = false := by simpa using hx
        have HX := Lib.hid hx
        clear hx hLc
        go_wp2
        go_round
        case rel => exact ⟨k + 1, by omega, by go_num, fun j hj => by
          by_cases e : j = k
          · rw [e]; exact HX.out
          · exact HN.out j (by omega)⟩
        case measure => simp [intOf]; omega
    · have HE := Lib.hid (at_miss n c f x (by omega) c2 (fun j hj => HN.out j (by omega)))
      clear hLc
      go_wp2
      go_ret
      exact ⟨ret_int HE.out.symm, HB.out⟩

theorem at_sign (n c f x : Int) (hn : 0 < n) : (0 ≤ atI n c f x) = (pairB n c f x = true) := by
  unfold atI
  cases h : pairB n c f x with
  | true =>
    have := Int.emod_nonneg (x - f) (show n ≠ 0 by omega)
    simpa using this
  | false => simp

set_option maxHeartbeats 1000000 in
theorem refowns_any (n c t x : Int) (s : ByteArray) (w : World) (hs : s.size ≤ 1000) :
    Calls Try.prog 33 #[.agg #[.int .i64 n, .int .i64 c, .int .i64 t], .string s, .int .i64 x] w fun e w' => e = .returned (.bool (pOk n c t s x)) ∧ Below w.heap.size w w' := by
  cases h : chkB n c t with
  | false =>
    rw [pOk_off n c t x s h]
    have HR := Lib.hid (fun w => refat_no n c t x s w hs h)
    clear h
    go_enter Try.func33, Try.ntmps33
    go_wp2_with fail
    refine (HR.out _).mono ?_
    rintro e w1 ⟨rfl, hb⟩
    have HB := Lib.hid (Conf3.box w w1 n c t hb).2
    clear hb
    go_wp2_with fail
    go_ret
    exact ⟨rfl, HB.out⟩
  | true =>
    rw [pOk_of n c t s x h]
    obtain ⟨n1, n2, c1, c2, -, -⟩ := chkB_of n c t h
    have HR := Lib.hid (fun w => refat_yes n c t x s w hs h)
    have HS := Lib.hid (at_sign n c (tokI s % n) x (by omega))
    clear h
    generalize atI n c (tokI s % n) x = a at *
    generalize hP : pairB n c (tokI s % n) x = p at *
    clear hP
    go_enter Try.func33, Try.ntmps33
    go_wp2_with fail
    refine (HR.out _).mono ?_
    rintro e w1 ⟨rfl, hb⟩
    have HB := Lib.hid (Conf3.box w w1 n c t hb).2
    clear hb
    go_wp2_with fail
    go_ret
    exact ⟨by have := HS.out; simp [this], HB.out⟩

set_option maxHeartbeats 1000000 in
theorem refpair_none (n c t x : Int) (s v : ByteArray) (w : World) (hA : ∀ w, Calls Try.prog 39 #[.agg #[.int .i64 n, .int .i64 c, .int .i64 t], .string s, .int .i64 x] w fun e w' => e = .returned (.int .i64 (-1)) ∧ Below w.heap.size w w') :
    Calls Try.prog 29 #[.agg #[.int .i64 n, .int .i64 c, .int .i64 t], .string s, .string v, .int .i64 x] w fun e w' => e = .returned (.tuple #[.int .i64 0, .bool false]) ∧ Below w.heap.size w w' := by
  have HA := Lib.hid hA
  clear hA
  go_enter Try.func29, Try.ntmps29
  go_wp2_with fail
  refine (HA.out _).mono ?_
  rintro e w1 ⟨rfl, hb⟩
  have HB := Lib.hid (Conf3.box w w1 n c t hb).2
  clear hb
  go_wp2_with fail
  go_ret2
  exact ⟨rfl, HB.out⟩

set_option maxHeartbeats 1000000 in
theorem refpair_some (n c t x g : Int) (k : Nat) (s v : ByteArray) (w : World) (hk : (k : Int) < c) (hk5 : (k : Int) < 5)
    (hA : ∀ w, Calls Try.prog 39 #[.agg #[.int .i64 n, .int .i64 c, .int .i64 t], .string s, .int .i64 x] w fun e w' => e = .returned (.int .i64 k) ∧ Below w.heap.size w w')
    (hO : ∀ w, Calls Try.prog 32 #[.agg #[.int .i64 n, .int .i64 c, .int .i64 t], .string v] w fun e w' => RefOwnersAt w w' n c g e) :
    Calls Try.prog 29 #[.agg #[.int .i64 n, .int .i64 c, .int .i64 t], .string s, .string v, .int .i64 x] w fun e w' => e = .returned (.tuple #[.int .i64 (own n c g k), .bool true]) ∧ Below w.heap.size w w' := by
  have HA := Lib.hid hA
  have HO := Lib.hid hO
  clear hA hO
  go_enter Try.func29, Try.ntmps29
  go_wp2_with fail
  refine (HA.out _).mono ?_
  rintro e w1 ⟨rfl, hb⟩
  obtain ⟨hc, hB⟩ := Conf3.box w w1 n c t hb
  have HB := Lib.hid hB
  obtain ⟨h0, h1, h2, h3⟩ := hc
  clear hb hB
  go_wp2_with fail
  refine (HO.out _).mono ?_
  rintro e w2 ⟨b, L, cap, rfl, hL, hcell, -, -, hb⟩
  have hkL : k < L := by omega
  have hkL' : (k : Int) < (L : Int) := by omega
  have hck := hcell k hkL
  have HB2 := Lib.hid (HB.out.trans (hb.mono HB.out.size))
  clear h0 h1 h2 h3 hb hcell hL HB
  go_wp2_with fail
  go_ret2
  exact ⟨rfl, HB2.out⟩

theorem refpair_any (n c t x : Int) (s v : ByteArray) (w : World) (hs : s.size ≤ 1000) (hv : v.size ≤ 1000) :
    Calls Try.prog 29 #[.agg #[.int .i64 n, .int .i64 c, .int .i64 t], .string s, .string v, .int .i64 x] w fun e w' => e = .returned (.tuple #[.int .i64 (pVal n c t s v x), .bool (pOk n c t s x)]) ∧ Below w.heap.size w w' := by
  cases h : chkB n c t with
  | false =>
    have e1 : pVal n c t s v x = 0 := by unfold pVal; rw [h]; rfl
    rw [e1, pOk_off n c t x s h]
    exact refpair_none n c t x s v w (fun w => refat_no n c t x s w hs h)
  | true =>
    obtain ⟨n1, n2, c1, c2, -, -⟩ := chkB_of n c t h
    rw [pVal_of n c t s v x h, pOk_of n c t s x h]
    have hA := fun w => refat_yes n c t x s w hs h
    have f0 : 0 ≤ tokI s % n := Int.emod_nonneg _ (by omega)
    have f1 : tokI s % n < n := Int.emod_lt_of_pos _ (by omega)
    cases hp : pairB n c (tokI s % n) x with
    | false =>
      rw [pairV_no _ _ _ _ _ hp]
      refine refpair_none n c t x s v w (fun w => ?_)
      have := hA w
      unfold atI at this
      rw [hp] at this
      exact this
    | true =>
      obtain ⟨k, hk, hx⟩ := pair_some n c (tokI s % n) x (by omega) c2 hp
      rw [(pair_hit n c (tokI s % n) (tokI v % n) x k (by omega) c2 f0 f1 hk hx).2]
      refine refpair_some n c t x (tokI v % n) k s v w hk (by omega) (fun w => ?_) (fun w => refowners_yes n c t v w hv h)
      have := hA w
      rw [at_hit n c (tokI s % n) x k (by omega) c2 f0 f1 hk hx] at this
      exact this

set_option maxHeartbeats 400000 in
theorem refbucket_any (s : ByteArray) (w : World) (hs : s.size ≤ 1000) :
    Calls Try.prog 34 #[.string s] w fun e w' => e = .returned (.int .i64 (tokI s / 134217728)) ∧ w = w' := by
  have h0 := tokI_nonneg s
  have h1 := tokI_lt s
  have HT : Hid (∀ w, Calls Try.prog 17 #[.string s] w fun e w' => e = .returned (.int .i64 (tokI s)) ∧ w = w') := fun w => refof_any s w (by unfold maxLen; omega)
  go_enter Try.func34, Try.ntmps34
  go_wp2_with fail
  refine (HT.out _).mono ?_
  rintro e w1 ⟨rfl, rfl⟩
  go_wp2_with fail
  go_ret
  exact ⟨rfl, rfl⟩

set_option maxHeartbeats 400000 in
theorem same_nil (w : World) :
    Calls Try.prog 31 #[.slice none 0 0, .slice none 0 0] w fun e w' => e = .returned (.bool true) ∧ Below w.heap.size w w' := by
  go_enter Try.func31, Try.ntmps31
  go_wp2_with fail
  refine wp_loop_rounds 1 ?_
  rw [rounds_succ]; go_wp2
  go_ret
  exact ⟨rfl, Below.refl _ _⟩

set_option maxHeartbeats 1000000 in
theorem same_cells (b1 b2 L c1 c2 : Nat) (u : Nat → Int) (w : World) (hL : L ≤ 5) (h1 : ∀ k, k < L → w.cell? ⟨b1, k, none⟩ = some (.int .i64 (u k))) (h2 : ∀ k, k < L → w.cell? ⟨b2, k, none⟩ = some (.int .i64 (u k))) :
    Calls Try.prog 31 #[.slice (some ⟨b1, 0, none⟩) L c1, .slice (some ⟨b2, 0, none⟩) L c2] w fun e w' => e = .returned (.bool true) ∧ Below w.heap.size w w' := by
  have H1 := Lib.hid h1
  have H2 := Lib.hid h2
  clear h1 h2
  go_enter Try.func31, Try.ntmps31
  go_wp2_with fail
  go_loopw [5] (fun i wr => ∃ k q : Nat, k ≤ L ∧ i = .int .i64 k ∧ wr = w.drewN q) (fun i _ => L - (intOf i).toNat)
  case atStart => exact ⟨0, 0, by omega, rfl, rfl⟩
  case round =>
    obtain ⟨k, q, hk, rfl, rfl⟩ := hrel
    by_cases hlt : k < L
    · have hlt' : (k : Int) < (L : Int) := by omega
      have e0 : (0 : Int) ≤ (k : Int) := by omega
      have d1 : (w.drewN q).cell? ⟨b1, k, none⟩ = some (.int .i64 (u k)) := by simpa using H1.out k hlt
      have d2 : (w.drewN q).cell? ⟨b2, k, none⟩ = some (.int .i64 (u k)) := by simpa using H2.out k hlt
      have d3 : w.cell? ⟨b1, k, none⟩ = some (.int .i64 (u k)) := H1.out k hlt
      have d4 : w.cell? ⟨b2, k, none⟩ = some (.int .i64 (u k)) := H2.out k hlt
      generalize u k = uk at *
      go_wp2_with fail
      go_quiet (fail)
      go_wp2_with fail
      refine ⟨⟨k + 1, q + nq, by omega, by go_num, rfl⟩, by simp [intOf]; omega⟩
    · go_wp2
      go_ret
      exact ⟨rfl, below_drewN (Below.refl _ _) _⟩

end Go.Proofs.Ytecgmmpafccbbaa
