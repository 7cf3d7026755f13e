/- The contracts of package ring. -/
import Derived.Test.YtecgmmpafccbbaaTok
import Derived.Deep.RegionHeld3
import Derived.LoopN
import Derived.RegionTactic
import Derived.ChangeAlike
namespace Go.Proofs.Ytecgmmpafccbbaa
open Go.RowKit
set_option linter.unusedVariables false
set_option linter.unusedSimpArgs false

/-- a key's place -/
def tokI (s : ByteArray) : Int := moreI 1 s.data.toList
theorem tokI_nonneg (s : ByteArray) : 0 ≤ tokI s := (moreI_bounds _ 1 (by omega) (by omega)).1
theorem tokI_lt (s : ByteArray) : tokI s < 2147483647 := (moreI_bounds _ 1 (by omega) (by omega)).2

/-- the block that the walk round the ring leaves -/
def tokO (s : ByteArray) : Obj := .cells #[.int .i64 (tokI s)] 3

set_option maxHeartbeats 400000 in
theorem more_exact (t : Int) (s : ByteArray) (w : World) (hs : s.size ≤ 1000) :
    Calls Try.prog 14 #[.int .i64 t, .string s] w fun e w' => e = .returned (.int .i64 (moreI (cutI t) s.data.toList)) ∧ w.alloc (.cells #[.int .i64 (moreI (cutI t) s.data.toList)] 3) = w' := by
  have c0 := cutI_nonneg t
  have c1 := cutI_lt t
  go_enter Try.func14, Try.ntmps14
  go_wp2_with (first | (go_at_call 35; refine (cut_any _ _).mono ?_; rintro e w' ⟨rfl, rfl⟩))
  go_loopw [12] (fun i wr => ∃ k : Nat, k ≤ s.size ∧ i = .int .i64 k ∧ wr = w.alloc (.cells #[.int .i64 (moreI (cutI t) (s.data.toList.take k))] 3)) (fun i _ => s.size - (intOf i).toNat)
  case atStart => exact ⟨0, Nat.zero_le _, rfl, rfl⟩
  case round =>
    obtain ⟨k, hk, rfl, rfl⟩ := hrel
    have hm := moreI_bounds (s.data.toList.take k) _ c0 c1
    by_cases hlt : k < s.size
    · have hsn : Hid _ := Lib.hid (moreI_snoc (cutI t) s k hlt)
      obtain ⟨hm0, hm1⟩ := hm
      go_wp2_with (first | (go_at_call 36; refine (round_any _ s[k] _ _ hm0 hm1 (by simp) (by simp)).mono ?_; rintro e w' ⟨rfl, rfl⟩))
      go_roundw
      case rel => exact ⟨k + 1, by omega, by go_num, by rw [hsn.out]⟩
      case measure => simp [intOf]; omega
    · go_wp2
      go_ret
      have e : s.data.toList.take k = s.data.toList := List.take_of_length_le (by simp; omega)
      exact ⟨ret_int (by rw [e]), by rw [e]⟩

set_option maxHeartbeats 400000 in
theorem of_exact (s : ByteArray) (w : World) (hs : s.size ≤ 1000) :
    Calls Try.prog 12 #[.string s] w fun e w' => e = .returned (.int .i64 (tokI s)) ∧ w.alloc (tokO s) = w' := by
  go_enter Try.func12, Try.ntmps12
  go_wp2_with fail
  refine (more_exact _ _ _ hs).mono ?_
  rintro e w1 ⟨rfl, rfl⟩
  go_wp2_with fail
  go_ret
  exact ⟨rfl, rfl⟩

set_option maxHeartbeats 400000 in
theorem token_exact (s : ByteArray) (w : World) (hs : s.size ≤ 1000) :
    Calls Try.prog 23 #[.string s] w fun e w' => e = .returned (.int .i64 (tokI s)) ∧ w.alloc (tokO s) = w' := by
  go_enter Try.func23, Try.ntmps23
  go_wp2_with fail
  refine (of_exact _ _ hs).mono ?_
  rintro e w1 ⟨rfl, rfl⟩
  go_wp2_with fail
  go_ret
  exact ⟨rfl, rfl⟩

set_option maxHeartbeats 400000 in
theorem bucket_exact (s : ByteArray) (w : World) (hs : s.size ≤ 1000) :
    Calls Try.prog 26 #[.string s] w fun e w' => e = .returned (.int .i64 (tokI s / 134217728)) ∧ w.alloc (tokO s) = w' := by
  have h0 := tokI_nonneg s
  have h1 := tokI_lt s
  go_enter Try.func26, Try.ntmps26
  go_wp2_with fail
  refine (token_exact _ _ hs).mono ?_
  rintro e w1 ⟨rfl, rfl⟩
  go_wp2_with fail
  go_ret
  exact ⟨rfl, rfl⟩

/-- the box of a configuration -/
def confO (n c t : Int) : Obj := .cells #[.int .i64 n, .int .i64 c, .int .i64 t] 35

/-- may a cluster be? -/
def chkB (n c t : Int) : Bool := decide (1 ≤ n) && decide (n ≤ 5) && decide (1 ≤ c) && decide (c ≤ n) && decide (1 ≤ t) && decide (t ≤ 100)

set_option maxHeartbeats 400000 in
theorem check_any (n c t : Int) (w : World) :
    Calls Try.prog 25 #[.agg #[.int .i64 n, .int .i64 c, .int .i64 t]] w fun e w' => e = .returned (.bool (chkB n c t)) ∧ w.alloc (confO n c t) = w' := by
  go_enter Try.func25, Try.ntmps25
  go_wp2
  all_goals
    go_ret
    refine ⟨?_, rfl⟩
    first | (simp [chkB, *]; done) | (simp [chkB, *]; intros; omega)

theorem chkB_yes (n c t : Int) (h1 : 1 ≤ n) (h2 : n ≤ 5) (h3 : 1 ≤ c) (h4 : c ≤ n) (h5 : 1 ≤ t) (h6 : t ≤ 100) : chkB n c t = true := by simp [chkB, *]
theorem chkB_of (n c t : Int) (h : chkB n c t = true) : 1 ≤ n ∧ n ≤ 5 ∧ 1 ≤ c ∧ c ≤ n ∧ 1 ≤ t ∧ t ≤ 100 := by simp [chkB] at h; omega

/-- the i-th owner, if there is one -/
def own (n c f i : Int) : Int := if i < c then (f + i) % n else 0

/-- an array of owners -/
def ownV (n c f : Int) : Value := .agg #[.int .i64 (own n c f 0), .int .i64 (own n c f 1), .int .i64 (own n c f 2), .int .i64 (own n c f 3), .int .i64 (own n c f 4)]

set_option maxHeartbeats 1000000 in
theorem round_no (n c t : Int) (s : ByteArray) (w : World) (hs : s.size ≤ 1000) (h : chkB n c t = false) :
    Calls Try.prog 38 #[.agg #[.int .i64 n, .int .i64 c, .int .i64 t], .string s] w fun e w' => e = .returned (.tuple #[.agg #[.int .i64 0, .int .i64 0, .int .i64 0, .int .i64 0, .int .i64 0], .int .i64 0]) ∧ Below w.heap.size w w' := by
  have hk := fun w => check_any n c t w
  rw [h] at hk
  have HK := Lib.hid hk
  clear hk h
  go_enter Try.func38, Try.ntmps38
  go_wp2_with fail
  refine (HK.out _).mono ?_
  rintro e w1 ⟨rfl, rfl⟩
  go_wp2_with fail
  refine bodyPost_ret (v := .tuple #[.agg #[.int .i64 0, .int .i64 0, .int .i64 0, .int .i64 0, .int .i64 0], .int .i64 0]) (by simp [results, Try.results38, go_sem]) rfl ⟨rfl, ?_⟩
  exact (((Below.refl _ _).alloc (Nat.le_refl _) _).alloc (by simp) _).alloc (by simp; omega) _

set_option maxHeartbeats 1000000 in
theorem round_yes (n c t : Int) (s : ByteArray) (w : World) (hs : s.size ≤ 1000) (h : chkB n c t = true) :
    Calls Try.prog 38 #[.agg #[.int .i64 n, .int .i64 c, .int .i64 t], .string s] w fun e w' => e = .returned (.tuple #[ownV n c (tokI s % n), .int .i64 c]) ∧ Below w.heap.size w w' := by
  have hk := fun w => check_any n c t w
  rw [h] at hk
  have HK := Lib.hid hk
  clear hk
  obtain ⟨n1, n2, c1, c2, -, -⟩ := chkB_of n c t h
  have k0 := tokI_nonneg s
  have k1 := tokI_lt s
  have hn0 : ¬ n = 0 := by omega
  have f0 : 0 ≤ tokI s % n := Int.emod_nonneg _ (by omega)
  have f1 : tokI s % n < n := Int.emod_lt_of_pos _ (by omega)
  have hr : (tokI s).tmod n = tokI s % n := Int.tmod_eq_emod_of_nonneg k0
  have hw : IntKind.i64.wrap (tokI s % n) = tokI s % n := IntWalk.i64_in _ (by omega)
  clear h
  go_enter Try.func38, Try.ntmps38
  go_wp2_with fail
  refine (HK.out _).mono ?_
  rintro e w1 ⟨rfl, rfl⟩
  go_wp2_with fail
  go_region_held3 (fun w' => w'.cell? ⟨w.heap.size, 0, none⟩ = some (.int .i64 n)) (go_keep) (first | (go_at_call 23; refine (token_exact _ _ hs).mono ?_; rintro e w3 ⟨rfl, rfl⟩))
  have hcs : c = 1 ∨ c = 2 ∨ c = 3 ∨ c = 4 ∨ c = 5 := by omega
  clear hr hw hn0 HK
  generalize hf : tokI s % n = f at *
  have HF := Lib.hid hf
  clear hf
  go_wp2_with fail
  rcases hcs with rfl | rfl | rfl | rfl | rfl
  · refine wp_loop_rounds 2 ?_
    rw [rounds_succ]; go_wp2
    rw [rounds_succ]; go_wp2
    go_region
    go_wp2
    refine bodyPost_ret (v := .tuple #[.agg #[.int .i64 (f % n), .int .i64 (0), .int .i64 (0), .int .i64 (0), .int .i64 (0)], .int .i64 1]) (by simp [results, Try.results38, go_sem]) rfl ⟨by rw [HF.out]; simp [ownV, own], ?_⟩
    exact (((((Below.refl _ _).alloc (Nat.le_refl _) _).alloc (by simp) _).alloc (by simp; omega) _).alloc (by simp; omega) _).drew.drew
  · refine wp_loop_rounds 3 ?_
    rw [rounds_succ]; go_wp2
    rw [rounds_succ]; go_wp2
    rw [rounds_succ]; go_wp2
    go_region
    go_wp2
    refine bodyPost_ret (v := .tuple #[.agg #[.int .i64 (f % n), .int .i64 ((f + 1) % n), .int .i64 (0), .int .i64 (0), .int .i64 (0)], .int .i64 2]) (by simp [results, Try.results38, go_sem]) rfl ⟨by rw [HF.out]; simp [ownV, own], ?_⟩
    exact (((((Below.refl _ _).alloc (Nat.le_refl _) _).alloc (by simp) _).alloc (by simp; omega) _).alloc (by simp; omega) _).drew.drew
  · refine wp_loop_rounds 4 ?_
    rw [rounds_succ]; go_wp2
    rw [rounds_succ]; go_wp2
    rw [rounds_succ]; go_wp2
    rw [rounds_succ]; go_wp2
    go_region
    go_wp2
    refine bodyPost_ret (v := .tuple #[.agg #[.int .i64 (f % n), .int .i64 ((f + 1) % n), .int .i64 ((f + 2) % n), .int .i64 (0), .int .i64 (0)], .int .i64 3]) (by simp [results, Try.results38, go_sem]) rfl ⟨by rw [HF.out]; simp [ownV, own], ?_⟩
    exact (((((Below.refl _ _).alloc (Nat.le_refl _) _).alloc (by simp) _).alloc (by simp; omega) _).alloc (by simp; omega) _).drew.drew
  · refine wp_loop_rounds 5 ?_
    rw [rounds_succ]; go_wp2
    rw [rounds_succ]; go_wp2
    rw [rounds_succ]; go_wp2
    rw [rounds_succ]; go_wp2
    rw [rounds_succ]; go_wp2
    go_region
    go_wp2
    refine bodyPost_ret (v := .tuple #[.agg #[.int .i64 (f % n), .int .i64 ((f + 1) % n), .int .i64 ((f + 2) % n), .int .i64 ((f + 3) % n), .int .i64 (0)], .int .i64 4]) (by simp [results, Try.results38, go_sem]) rfl ⟨by rw [HF.out]; simp [ownV, own], ?_⟩
    exact (((((Below.refl _ _).alloc (Nat.le_refl _) _).alloc (by simp) _).alloc (by simp; omega) _).alloc (by simp; omega) _).drew.drew
  · refine wp_loop_rounds 6 ?_
    rw [rounds_succ]; go_wp2
    rw [rounds_succ]; go_wp2
    rw [rounds_succ]; go_wp2
    rw [rounds_succ]; go_wp2
    rw [rounds_succ]; go_wp2
    rw [rounds_succ]; go_wp2
    go_region
    go_wp2
    refine bodyPost_ret (v := .tuple #[.agg #[.int .i64 (f % n), .int .i64 ((f + 1) % n), .int .i64 ((f + 2) % n), .int .i64 ((f + 3) % n), .int .i64 ((f + 4) % n)], .int .i64 5]) (by simp [results, Try.results38, go_sem]) rfl ⟨by rw [HF.out]; simp [ownV, own], ?_⟩
    exact (((((Below.refl _ _).alloc (Nat.le_refl _) _).alloc (by simp) _).alloc (by simp; omega) _).alloc (by simp; omega) _).drew.drew

end Go.Proofs.Ytecgmmpafccbbaa
