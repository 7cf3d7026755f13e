/- The walk of the law RingShares. -/
import Derived.Test.YtecgmmpafccbbaaPairsWalk
import Derived.Deep.QuietTactic
import Derived.BigQuiet
namespace Go.Proofs.Ytecgmmpafccbbaa
open Go.RowKit
set_option linter.unusedVariables false
set_option linter.unusedSimpArgs false

set_option maxHeartbeats 1000000 in
theorem shares_far (a0 a1 a3 : Int) (s : ByteArray) (w : World) (h : 300 < s.size) :
    Calls Try.prog 7 #[.int .i64 a0, .int .i64 a1, .string s, .int .i64 a3] w fun e w' => e = .returned (.bool true) ∧ Below w.heap.size w w' := by
  go_enter Try.func7, Try.ntmps7
  go_wp2_with fail
  refine (awake20_any _).mono ?_
  rintro e w1 ⟨rfl, hb⟩
  go_wp2_with fail
  go_ret
  exact ⟨rfl, hb⟩

theorem own_zero (n c f : Int) (h : 0 < c) (f0 : 0 ≤ f) (f1 : f < n) : own n c f 0 = f := by
  unfold own
  rw [if_pos h, Int.add_zero, Int.emod_eq_of_lt f0 f1]

theorem own_next (n c f : Int) (i : Nat) (h : (i : Int) + 1 < c) : own n c f ((i : Int) + 1) = (own n c f i + 1) % n := by
  unfold own
  rw [if_pos h, if_pos (by omega), Int.emod_add_emod]
  congr 1
  omega

theorem own_bounds (n c f i : Int) (hn : 0 < n) : 0 ≤ own n c f i ∧ own n c f i < n := by
  unfold own
  split
  · exact ⟨Int.emod_nonneg _ (by omega), Int.emod_lt_of_pos _ hn⟩
  · omega

theorem pair_all (n f : Int) (x : Nat) (hn : 0 < n) (hx : (x : Int) < n) : pairB n n f x = true := by
  have := Int.emod_lt_of_pos (x - f) hn
  unfold pairB
  simp
  omega

theorem pair_low (n c f : Int) : pairB n c f (-1) = false := by unfold pairB; simp
theorem pair_high (n c f : Int) : pairB n c f n = false := by unfold pairB; simp

theorem chk_no1 : chkB 0 1 5 = false := by decide
theorem chk_no2 (x : Int) (h : 0 ≤ x) : chkB (5 + (1 + x)) 1 5 = false := by simp [chkB]; intros; omega
theorem chk_no3 (x : Int) (h : 0 ≤ x) : chkB 2 (2 + (1 + x)) 5 = false := by simp [chkB]; intros; omega
theorem chk_no4 (x : Int) (h : 0 ≤ x) : chkB 2 1 (1 - (1 + x)) = false := by simp [chkB]; intros; omega
theorem chk_no5 (x : Int) (h : 0 ≤ x) : chkB 2 1 (100 + (1 + x)) = false := by simp [chkB]; intros; omega
theorem pOk_no (n c t x : Int) (s : ByteArray) (h : chkB n c t = false) : pOk n c t s x = false := by unfold pOk; rw [h]; rfl

/-- three calls about a configuration that may not be -/
def BadCalls (s : ByteArray) (n c t : Int) : Prop :=
  (∀ w, Calls Try.prog 25 #[.agg #[.int .i64 n, .int .i64 c, .int .i64 t]] w fun e w' => e = .returned (.bool false) ∧ Below w.heap.size w w') ∧
  (∀ w, Calls Try.prog 22 #[.agg #[.int .i64 n, .int .i64 c, .int .i64 t], .string s] w fun e w' => e = .returned (.slice none 0 0) ∧ Below w.heap.size w w') ∧
  (∀ w, Calls Try.prog 24 #[.agg #[.int .i64 n, .int .i64 c, .int .i64 t], .string s, .int .i64 0] w fun e w' => e = .returned (.bool false) ∧ Below w.heap.size w w')

theorem bad_calls (s : ByteArray) (hs : s.size ≤ 1000) (n c t : Int) (h : chkB n c t = false) : BadCalls s n c t := by
  refine ⟨fun w => ?_, fun w => owners_no n c t s w hs h, fun w => ?_⟩
  · have := check_any n c t w
    rw [h] at this
    exact this.mono fun _ _ ⟨he, hw⟩ => ⟨he, hw ▸ Below.one _ _ (Nat.le_refl _)⟩
  · have := owns_any n c t 0 s w hs
    rw [pOk_no n c t 0 s h] at this
    exact this

/-- the block of the bad configurations -/
def badO (x : Int) : Obj := .cells #[.int .i64 0, .int .i64 1, .int .i64 5, .int .i64 (5 + (1 + x)), .int .i64 1, .int .i64 5, .int .i64 2, .int .i64 (2 + (1 + x)), .int .i64 5, .int .i64 2, .int .i64 1, .int .i64 (1 - (1 + x)), .int .i64 2, .int .i64 1, .int .i64 (100 + (1 + x))] 39

def Tri (w : World) (D o : Nat) (n c t : Int) : Prop := w.cell? ⟨D, o, none⟩ = some (.int .i64 n) ∧ w.cell? ⟨D, o + 1, none⟩ = some (.int .i64 c) ∧ w.cell? ⟨D, o + 2, none⟩ = some (.int .i64 t)
def BadAt (w : World) (D : Nat) (x : Int) : Prop := Tri w D 0 0 1 5 ∧ Tri w D 3 (5 + (1 + x)) 1 5 ∧ Tri w D 6 2 (2 + (1 + x)) 5 ∧ Tri w D 9 2 1 (1 - (1 + x)) ∧ Tri w D 12 2 1 (100 + (1 + x)) ∧ D < w.heap.size
theorem Tri.keep {w w' : World} {D o : Nat} {n c t : Int} (h : Tri w D o n c t) (hD : D < w.heap.size) (hb : Below w.heap.size w w') : Tri w' D o n c t :=
  ⟨((bcell hb).1 _ _ hD).trans h.1, ((bcell hb).1 _ _ hD).trans h.2.1, ((bcell hb).1 _ _ hD).trans h.2.2⟩
theorem BadAt.keep {w w' : World} {D : Nat} {x : Int} (h : BadAt w D x) (hb : Below w.heap.size w w') : BadAt w' D x := by
  obtain ⟨h0, h1, h2, h3, h4, h5⟩ := h
  exact ⟨h0.keep h5 hb, h1.keep h5 hb, h2.keep h5 hb, h3.keep h5 hb, h4.keep h5 hb, Nat.lt_of_lt_of_le h5 hb.size⟩
theorem BadAt.new (w : World) (x : Int) : BadAt (w.alloc (badO x)) w.heap.size x := by
  have e : (w.alloc (badO x)).heap[w.heap.size]? = some (badO x) := (MapKept.heap_alloc w _).1
  have hc : ∀ o, (w.alloc (badO x)).cell? ⟨w.heap.size, o, none⟩ = (#[Value.int .i64 0, .int .i64 1, .int .i64 5, .int .i64 (5 + (1 + x)), .int .i64 1, .int .i64 5, .int .i64 2, .int .i64 (2 + (1 + x)), .int .i64 5, .int .i64 2, .int .i64 1, .int .i64 (1 - (1 + x)), .int .i64 2, .int .i64 1, .int .i64 (100 + (1 + x))] : Array Value)[o]? := fun o => by
    unfold World.cell?
    rw [e]
    rfl
  refine ⟨⟨?_, ?_, ?_⟩, ⟨?_, ?_, ?_⟩, ⟨?_, ?_, ?_⟩, ⟨?_, ?_, ?_⟩, ⟨?_, ?_, ?_⟩, by simp⟩ <;> (rw [hc]; rfl)

/-- what holds at the head of the first loop's rounds, and behind it -/
def SharesAt (w : World) (n c f : Int) (C b : Nat) (wr : World) : Prop :=
  Conf3 wr C n c 5 ∧ (∀ j : Nat, j < 5 → wr.cell? ⟨b, j, none⟩ = some (.int .i64 (own n c f j))) ∧ b < wr.heap.size ∧ Below w.heap.size w wr
theorem SharesAt.keep {w w1 w2 : World} {n c f : Int} {C b : Nat} (h : SharesAt w n c f C b w1) (hb : Below w1.heap.size w1 w2) : SharesAt w n c f C b w2 := by
  obtain ⟨h0, h1, h2, h3⟩ := h
  exact ⟨h0.keep hb, fun j hj => ((bcell hb).1 _ _ h2).trans (h1 j hj), Nat.lt_of_lt_of_le h2 hb.size, h3.trans (hb.mono h3.size)⟩

theorem place_100 (v x : Int) (hx : placeI v 100 = x) (w : World) :
    Calls Try.prog 13 #[.int .i64 v, .int .i64 100] w fun e w' => e = .returned (.int .i64 x) ∧ w = w' := by
  have := place_any v 100 w (by omega) (by omega)
  rw [hx] at this
  exact this

set_option maxRecDepth 100000 in
set_option maxHeartbeats 8000000 in
theorem shares_near (a0 a1 a3 : Int) (s : ByteArray) (m k : Nat) (x : Int) (w : World) (hs : s.size ≤ 300) (hn : placeI a0 5 = m) (hc : placeI a1 (1 + (m : Int)) = k) (hx : placeI a3 100 = x) (x0 : 0 ≤ x) (x1 : x < 100) (n2 : m ≤ 4) (c2 : k ≤ m) :
    Calls Try.prog 7 #[.int .i64 a0, .int .i64 a1, .string s, .int .i64 a3] w fun e w' => e = .returned (.bool true) ∧ Below w.heap.size w w' := by
  have hk : chkB (1 + (m : Int)) (1 + (k : Int)) 5 = true := chkB_yes _ _ _ (by omega) (by omega) (by omega) (by omega) (by omega) (by omega)
  have hka : chkB (1 + (m : Int)) (1 + (m : Int)) 5 = true := chkB_yes _ _ _ (by omega) (by omega) (by omega) (by omega) (by omega) (by omega)
  have f0 : 0 ≤ tokI s % (1 + (m : Int)) := Int.emod_nonneg _ (by omega)
  have f1 : tokI s % (1 + (m : Int)) < 1 + m := Int.emod_lt_of_pos _ (by omega)
  have HO := Lib.hid (fun w => owners_yes (1 + (m : Int)) (1 + (k : Int)) 5 s w (by omega) hk)
  have hA := fun (i : Nat) w => owns_any (1 + (m : Int)) (1 + (m : Int)) 5 i s w (by omega)
  have hL := fun w => owns_any (1 + (m : Int)) (1 + (k : Int)) 5 (-1) s w (by omega)
  have hH := fun w => owns_any (1 + (m : Int)) (1 + (k : Int)) 5 (1 + (m : Int)) s w (by omega)
  simp only [pOk_of _ _ _ _ _ hk, pOk_of _ _ _ _ _ hka] at hA hL hH
  rw [pair_low] at hL
  rw [pair_high] at hH
  have HT := Lib.hid (fun w => token_exact s w (by omega))
  have HQ := Lib.hid (fun w => bucket_exact s w (by omega))
  have t0 := tokI_nonneg s
  have hr : (tokI s).tmod (1 + (m : Int)) = tokI s % (1 + (m : Int)) := Int.tmod_eq_emod_of_nonneg t0
  have hw : IntKind.i64.wrap (tokI s % (1 + (m : Int))) = tokI s % (1 + (m : Int)) := IntWalk.i64_in _ (by omega)
  generalize hF : tokI s % (1 + (m : Int)) = f at *
  have HA := Lib.hid hA
  have HLo := Lib.hid hL
  have HHi := Lib.hid hH
  have HN := Lib.hid hn
  have HC := Lib.hid hc
  have HX := Lib.hid hx
  have HR := Lib.hid hr
  have HW := Lib.hid hw
  have T0 := Lib.hid t0
  have X1 := Lib.hid x1
  have K1 := Lib.hid (bad_calls s (by omega) _ _ _ chk_no1)
  have K2 := Lib.hid (bad_calls s (by omega) _ _ _ (chk_no2 x x0))
  have K3 := Lib.hid (bad_calls s (by omega) _ _ _ (chk_no3 x x0))
  have K4 := Lib.hid (bad_calls s (by omega) _ _ _ (chk_no4 x x0))
  have K5 := Lib.hid (bad_calls s (by omega) _ _ _ (chk_no5 x x0))
  clear hA hL hH hn hc hx hr hw t0 hk hka hF x1
  go_enter Try.func7, Try.ntmps7
  go_wp2_with fail
  refine (place_is _ _ _ HN.out (by omega) (by omega) _).mono ?_
  rintro e w1 ⟨rfl, rfl⟩
  go_wp2_with fail
  refine (place_is _ _ _ HC.out (by omega) (by omega) _).mono ?_
  rintro e w1 ⟨rfl, rfl⟩
  go_wp2_with fail
  refine (HO.out _).mono ?_
  rintro e w1 ⟨b, rfl, hcells, hbs, hbb, hb⟩
  have hB1 := (Below.one w _ (Nat.le_refl _)).trans (hb.mono (by simp))
  have hS1 : SharesAt w (1 + (m : Int)) (1 + (k : Int)) f w.heap.size b w1 := ⟨(Conf3.new w (1 + (m : Int)) (1 + (k : Int)) 5).keep hb, hcells, hbs, hB1⟩
  have S1 := Lib.hid hS1
  obtain ⟨⟨h0, h1, h2, h3⟩, hcl, -, -⟩ := hS1
  have hl0 := hcl 0 (by omega)
  have ez := own_zero (1 + (m : Int)) (1 + (k : Int)) f (by omega) f0 f1
  rw [show ((0 : Nat) : Int) = 0 from rfl, ez] at hl0
  have HLn : Hid ((((1 + (k : Int)).toNat : Nat) : Int) = 1 + (k : Int)) := Int.toNat_of_nonneg (by omega)
  clear hb hB1 hcells hbs hbb hcl ez
  generalize (1 + (k : Int)).toNat = L at *
  have hlen := HLn.out
  have hL0 : (0 : Int) < (L : Int) := by omega
  have hL0n : 0 < L := by omega
  have hne : ((L : Int) != 1 + (k : Int)) = false := by simpa using hlen
  have hn0 : ¬ (1 + (m : Int)) = 0 := by omega
  have hr := HR.out
  have hw := HW.out
  have t0 := T0.out
  clear hlen
  go_wp2_with fail
  go_region_held3 (fun w' => w'.cell? ⟨w.heap.size, 1, none⟩ = some (.int .i64 (1 + (k : Int))) ∧ w'.cell? ⟨b, 0, none⟩ = some (.int .i64 f)) (go_keep) (first | (go_at_call 23; refine (HT.out _).mono ?_; rintro e w3 ⟨rfl, rfl⟩))
  rename_i hh
  clear hh hr hw t0 hn0 hne h0 h1 h2 h3 hl0
  have S2 : Hid (SharesAt w (1 + (m : Int)) (1 + (k : Int)) f w.heap.size b (w1.alloc (tokO s)).drew) := (S1.out.keep ((Below.refl _ _).alloc (Nat.le_refl _) _)).keep ((Below.refl _ _).drew)
  clear S1
  generalize (w1.alloc (tokO s)).drew = W2 at *
  go_wp2_with fail
  go_loopw [12] (fun iv wr => ∃ i : Nat, i < L ∧ iv = .int .i64 ((i : Int) + 1) ∧ SharesAt w (1 + (m : Int)) (1 + (k : Int)) f w.heap.size b wr) (fun iv _ => L + 1 - (intOf iv).toNat)
  case atStart => exact ⟨0, by omega, rfl, S2.out⟩
  case round =>
    clear S2
    obtain ⟨i, hi, rfl, hat⟩ := hrel
    have S3 := Lib.hid hat
    have hlen := HLn.out
    by_cases hlt : i + 1 < L
    · have hlt' : (i : Int) + 1 < (L : Int) := by omega
      have hi0 := hat.2.1 i (by omega)
      have hi1 := hat.2.1 (i + 1) (by omega)
      rw [show (((i + 1 : Nat)) : Int) = (i : Int) + 1 from by omega, own_next _ _ _ i (by omega)] at hi1
      obtain ⟨o0, o1⟩ := own_bounds (1 + (m : Int)) (1 + (k : Int)) f i (by omega)
      have hr2 : (own (1 + (m : Int)) (1 + (k : Int)) f i + 1).tmod (1 + (m : Int)) = (own (1 + (m : Int)) (1 + (k : Int)) f i + 1) % (1 + (m : Int)) := Int.tmod_eq_emod_of_nonneg (by omega)
      generalize own (1 + (m : Int)) (1 + (k : Int)) f i = o at *
      have q0 := Int.emod_nonneg (o + 1) (show 1 + (m : Int) ≠ 0 by omega)
      have q1 := Int.emod_lt_of_pos (o + 1) (show 0 < 1 + (m : Int) by omega)
      have hw1 : IntKind.i64.wrap (o + 1) = o + 1 := IntWalk.i64_in _ (by omega)
      have hw2 : IntKind.i64.wrap ((o + 1) % (1 + (m : Int))) = (o + 1) % (1 + (m : Int)) := IntWalk.i64_in _ (by omega)
      have hw3 : IntKind.i64.wrap ((i : Int) + 1 - 1) = (i : Int) := (IntWalk.i64_in _ (by omega)).trans (by omega)
      have hw4 : IntKind.i64.wrap (i : Int) = (i : Int) := IntWalk.i64_in _ (by omega)
      have hn0 : ¬ (1 + (m : Int)) = 0 := by omega
      have e0 : (0 : Int) ≤ (i : Int) := by omega
      have e1 : (0 : Int) ≤ (i : Int) + 1 := by omega
      have e2 : (i : Int) < (L : Int) := by omega
      have e3 : ((i : Int) + 1).toNat = i + 1 := by omega
      have e4 : (i : Int) < 10 := by omega
      clear hlen hat
      go_wp2_with fail
      go_quiet (fail)
      have S4 := Lib.hid (S3.out.keep (below_drewN (Below.refl _ _) nq))
      clear S3 hi0 hi1 hr2 hw1 hw2 hw3 hw4 e3
      generalize wr.drewN nq = w4 at *
      go_wp2_with fail
      go_roundw
      case rel => exact ⟨i + 1, by omega, by go_num, S4.out⟩
      case measure => simp [intOf]; omega
    · have hge : (L : Int) ≤ (i : Int) + 1 := by omega
      clear hlen hat hi hlt
      go_wp2_with fail
      have hA0 : Conf3 (wr.alloc (.cells #[.int .i64 (1 + (m : Int)), .int .i64 (1 + (m : Int)), .int .i64 5] 35)) wr.heap.size (1 + (m : Int)) (1 + (m : Int)) 5 := Conf3.new wr _ _ _
      have hA1 := S3.out.keep ((Below.refl _ _).alloc (Nat.le_refl _) (.cells #[.int .i64 (1 + (m : Int)), .int .i64 (1 + (m : Int)), .int .i64 5] 35))
      have A0 := Lib.hid hA0
      have A1 := Lib.hid hA1
      clear hA0 hA1 S3
      generalize wr.alloc _ = W5 at *
      generalize wr.heap.size = A at *
      go_loopw [14] (fun iv wr => ∃ j : Nat, j ≤ m + 1 ∧ iv = .int .i64 j ∧ SharesAt w (1 + (m : Int)) (1 + (k : Int)) f w.heap.size b wr ∧ Conf3 wr A (1 + (m : Int)) (1 + (m : Int)) 5) (fun iv _ => m + 1 - (intOf iv).toNat)
      case atStart => exact ⟨0, by omega, rfl, A1.out, A0.out⟩
      case round =>
        clear A0 A1
        obtain ⟨j, hj, rfl, hat, hco⟩ := hrel
        have S6 := Lib.hid hat
        have C6 := Lib.hid hco
        clear hat
        by_cases hlt : (j : Int) < 1 + (m : Int)
        · have hAj := HA.out j
          rw [pair_all _ _ _ (by omega) hlt] at hAj
          have HAj := Lib.hid hAj
          obtain ⟨h0, h1, h2, h3⟩ := hco
          clear hAj
          go_wp2_with fail
          refine (HAj.out _).mono ?_
          rintro e w7 ⟨rfl, hb⟩
          have S7 := Lib.hid (S6.out.keep hb)
          have C7 := Lib.hid (C6.out.keep hb)
          clear h0 h1 h2 h3 hb S6 C6
          go_wp2_with fail
          go_roundw
          case rel => exact ⟨j + 1, by omega, by go_num, S7.out, C7.out⟩
          case measure => simp [intOf]; omega
        · have hge2 : 1 + (m : Int) ≤ (j : Int) := by omega
          clear hco C6 hj hlt
          go_wp2_with fail
          refine (place_100 _ _ HX.out _).mono ?_
          rintro e w8 ⟨rfl, rfl⟩
          have x1 := X1.out
          go_wp2_with fail
          have hB0 : BadAt (wr.alloc (badO x)) wr.heap.size x := BadAt.new wr x
          have hS0 := S6.out.keep ((Below.refl _ _).alloc (Nat.le_refl _) (badO x))
          unfold badO at hB0 hS0
          have B0 := Lib.hid hB0
          have S0 := Lib.hid hS0
          clear hB0 hS0 S6
          generalize wr.alloc _ = v0 at *
          generalize wr.heap.size = D at *
          refine wp_loop_rounds 6 ?_
          -- round 0
          rw [rounds_succ]
          have r0 : v0.cell? ⟨D, 0, none⟩ = some (.int .i64 (0)) := B0.out.1.1
          have r1 : v0.cell? ⟨D, 1, none⟩ = some (.int .i64 (1)) := B0.out.1.2.1
          have r2 : v0.cell? ⟨D, 2, none⟩ = some (.int .i64 (5)) := B0.out.1.2.2
          go_wp2_with fail
          refine (K1.out.1 _).mono ?_
          rintro e v1 ⟨rfl, hb⟩
          have B1 := Lib.hid (B0.out.keep hb)
          have S1 := Lib.hid (S0.out.keep hb)
          clear r0 r1 r2 hb B0 S0
          have r0 : v1.cell? ⟨D, 0, none⟩ = some (.int .i64 (0)) := B1.out.1.1
          have r1 : v1.cell? ⟨D, 1, none⟩ = some (.int .i64 (1)) := B1.out.1.2.1
          have r2 : v1.cell? ⟨D, 2, none⟩ = some (.int .i64 (5)) := B1.out.1.2.2
          go_wp2_with fail
          refine (K1.out.2.1 _).mono ?_
          rintro e v2 ⟨rfl, hb⟩
          have B2 := Lib.hid (B1.out.keep hb)
          have S2 := Lib.hid (S1.out.keep hb)
          clear r0 r1 r2 hb B1 S1
          have r0 : v2.cell? ⟨D, 0, none⟩ = some (.int .i64 (0)) := B2.out.1.1
          have r1 : v2.cell? ⟨D, 1, none⟩ = some (.int .i64 (1)) := B2.out.1.2.1
          have r2 : v2.cell? ⟨D, 2, none⟩ = some (.int .i64 (5)) := B2.out.1.2.2
          go_wp2_with fail
          refine (K1.out.2.2 _).mono ?_
          rintro e v3 ⟨rfl, hb⟩
          have B3 := Lib.hid (B2.out.keep hb)
          have S3 := Lib.hid (S2.out.keep hb)
          clear r0 r1 r2 hb B2 S2
          go_wp2_with fail
          -- round 1
          rw [rounds_succ]
          have r0 : v3.cell? ⟨D, 3, none⟩ = some (.int .i64 (5 + (1 + x))) := B3.out.2.1.1
          have r1 : v3.cell? ⟨D, 4, none⟩ = some (.int .i64 (1)) := B3.out.2.1.2.1
          have r2 : v3.cell? ⟨D, 5, none⟩ = some (.int .i64 (5)) := B3.out.2.1.2.2
          go_wp2_with fail
          refine (K2.out.1 _).mono ?_
          rintro e v4 ⟨rfl, hb⟩
          have B4 := Lib.hid (B3.out.keep hb)
          have S4 := Lib.hid (S3.out.keep hb)
          clear r0 r1 r2 hb B3 S3
          have r0 : v4.cell? ⟨D, 3, none⟩ = some (.int .i64 (5 + (1 + x))) := B4.out.2.1.1
          have r1 : v4.cell? ⟨D, 4, none⟩ = some (.int .i64 (1)) := B4.out.2.1.2.1
          have r2 : v4.cell? ⟨D, 5, none⟩ = some (.int .i64 (5)) := B4.out.2.1.2.2
          go_wp2_with fail
          refine (K2.out.2.1 _).mono ?_
          rintro e v5 ⟨rfl, hb⟩
          have B5 := Lib.hid (B4.out.keep hb)
          have S5 := Lib.hid (S4.out.keep hb)
          clear r0 r1 r2 hb B4 S4
          have r0 : v5.cell? ⟨D, 3, none⟩ = some (.int .i64 (5 + (1 + x))) := B5.out.2.1.1
          have r1 : v5.cell? ⟨D, 4, none⟩ = some (.int .i64 (1)) := B5.out.2.1.2.1
          have r2 : v5.cell? ⟨D, 5, none⟩ = some (.int .i64 (5)) := B5.out.2.1.2.2
          go_wp2_with fail
          refine (K2.out.2.2 _).mono ?_
          rintro e v6 ⟨rfl, hb⟩
          have B6 := Lib.hid (B5.out.keep hb)
          have S6 := Lib.hid (S5.out.keep hb)
          clear r0 r1 r2 hb B5 S5
          go_wp2_with fail
          -- round 2
          rw [rounds_succ]
          have r0 : v6.cell? ⟨D, 6, none⟩ = some (.int .i64 (2)) := B6.out.2.2.1.1
          have r1 : v6.cell? ⟨D, 7, none⟩ = some (.int .i64 (2 + (1 + x))) := B6.out.2.2.1.2.1
          have r2 : v6.cell? ⟨D, 8, none⟩ = some (.int .i64 (5)) := B6.out.2.2.1.2.2
          go_wp2_with fail
          refine (K3.out.1 _).mono ?_
          rintro e v7 ⟨rfl, hb⟩
          have B7 := Lib.hid (B6.out.keep hb)
          have S7 := Lib.hid (S6.out.keep hb)
          clear r0 r1 r2 hb B6 S6
          have r0 : v7.cell? ⟨D, 6, none⟩ = some (.int .i64 (2)) := B7.out.2.2.1.1
          have r1 : v7.cell? ⟨D, 7, none⟩ = some (.int .i64 (2 + (1 + x))) := B7.out.2.2.1.2.1
          have r2 : v7.cell? ⟨D, 8, none⟩ = some (.int .i64 (5)) := B7.out.2.2.1.2.2
          go_wp2_with fail
          refine (K3.out.2.1 _).mono ?_
          rintro e v8 ⟨rfl, hb⟩
          have B8 := Lib.hid (B7.out.keep hb)
          have S8 := Lib.hid (S7.out.keep hb)
          clear r0 r1 r2 hb B7 S7
          have r0 : v8.cell? ⟨D, 6, none⟩ = some (.int .i64 (2)) := B8.out.2.2.1.1
          have r1 : v8.cell? ⟨D, 7, none⟩ = some (.int .i64 (2 + (1 + x))) := B8.out.2.2.1.2.1
          have r2 : v8.cell? ⟨D, 8, none⟩ = some (.int .i64 (5)) := B8.out.2.2.1.2.2
          go_wp2_with fail
          refine (K3.out.2.2 _).mono ?_
          rintro e v9 ⟨rfl, hb⟩
          have B9 := Lib.hid (B8.out.keep hb)
          have S9 := Lib.hid (S8.out.keep hb)
          clear r0 r1 r2 hb B8 S8
          go_wp2_with fail
          -- round 3
          rw [rounds_succ]
          have r0 : v9.cell? ⟨D, 9, none⟩ = some (.int .i64 (2)) := B9.out.2.2.2.1.1
          have r1 : v9.cell? ⟨D, 10, none⟩ = some (.int .i64 (1)) := B9.out.2.2.2.1.2.1
          have r2 : v9.cell? ⟨D, 11, none⟩ = some (.int .i64 (1 - (1 + x))) := B9.out.2.2.2.1.2.2
          go_wp2_with fail
          refine (K4.out.1 _).mono ?_
          rintro e v10 ⟨rfl, hb⟩
          have B10 := Lib.hid (B9.out.keep hb)
          have S10 := Lib.hid (S9.out.keep hb)
          clear r0 r1 r2 hb B9 S9
          have r0 : v10.cell? ⟨D, 9, none⟩ = some (.int .i64 (2)) := B10.out.2.2.2.1.1
          have r1 : v10.cell? ⟨D, 10, none⟩ = some (.int .i64 (1)) := B10.out.2.2.2.1.2.1
          have r2 : v10.cell? ⟨D, 11, none⟩ = some (.int .i64 (1 - (1 + x))) := B10.out.2.2.2.1.2.2
          go_wp2_with fail
          refine (K4.out.2.1 _).mono ?_
          rintro e v11 ⟨rfl, hb⟩
          have B11 := Lib.hid (B10.out.keep hb)
          have S11 := Lib.hid (S10.out.keep hb)
          clear r0 r1 r2 hb B10 S10
          have r0 : v11.cell? ⟨D, 9, none⟩ = some (.int .i64 (2)) := B11.out.2.2.2.1.1
          have r1 : v11.cell? ⟨D, 10, none⟩ = some (.int .i64 (1)) := B11.out.2.2.2.1.2.1
          have r2 : v11.cell? ⟨D, 11, none⟩ = some (.int .i64 (1 - (1 + x))) := B11.out.2.2.2.1.2.2
          go_wp2_with fail
          refine (K4.out.2.2 _).mono ?_
          rintro e v12 ⟨rfl, hb⟩
          have B12 := Lib.hid (B11.out.keep hb)
          have S12 := Lib.hid (S11.out.keep hb)
          clear r0 r1 r2 hb B11 S11
          go_wp2_with fail
          -- round 4
          rw [rounds_succ]
          have r0 : v12.cell? ⟨D, 12, none⟩ = some (.int .i64 (2)) := B12.out.2.2.2.2.1.1
          have r1 : v12.cell? ⟨D, 13, none⟩ = some (.int .i64 (1)) := B12.out.2.2.2.2.1.2.1
          have r2 : v12.cell? ⟨D, 14, none⟩ = some (.int .i64 (100 + (1 + x))) := B12.out.2.2.2.2.1.2.2
          go_wp2_with fail
          refine (K5.out.1 _).mono ?_
          rintro e v13 ⟨rfl, hb⟩
          have B13 := Lib.hid (B12.out.keep hb)
          have S13 := Lib.hid (S12.out.keep hb)
          clear r0 r1 r2 hb B12 S12
          have r0 : v13.cell? ⟨D, 12, none⟩ = some (.int .i64 (2)) := B13.out.2.2.2.2.1.1
          have r1 : v13.cell? ⟨D, 13, none⟩ = some (.int .i64 (1)) := B13.out.2.2.2.2.1.2.1
          have r2 : v13.cell? ⟨D, 14, none⟩ = some (.int .i64 (100 + (1 + x))) := B13.out.2.2.2.2.1.2.2
          go_wp2_with fail
          refine (K5.out.2.1 _).mono ?_
          rintro e v14 ⟨rfl, hb⟩
          have B14 := Lib.hid (B13.out.keep hb)
          have S14 := Lib.hid (S13.out.keep hb)
          clear r0 r1 r2 hb B13 S13
          have r0 : v14.cell? ⟨D, 12, none⟩ = some (.int .i64 (2)) := B14.out.2.2.2.2.1.1
          have r1 : v14.cell? ⟨D, 13, none⟩ = some (.int .i64 (1)) := B14.out.2.2.2.2.1.2.1
          have r2 : v14.cell? ⟨D, 14, none⟩ = some (.int .i64 (100 + (1 + x))) := B14.out.2.2.2.2.1.2.2
          go_wp2_with fail
          refine (K5.out.2.2 _).mono ?_
          rintro e v15 ⟨rfl, hb⟩
          have B15 := Lib.hid (B14.out.keep hb)
          have S15 := Lib.hid (S14.out.keep hb)
          clear r0 r1 r2 hb B14 S14
          go_wp2_with fail
          rw [rounds_succ]
          obtain ⟨h0, h1, h2, h3⟩ := S15.out.1
          go_wp2_with fail
          refine (HLo.out _).mono ?_
          rintro e u1 ⟨rfl, hb⟩
          have U1 := Lib.hid (S15.out.keep hb)
          clear h0 h1 h2 h3 hb
          obtain ⟨h0, h1, h2, h3⟩ := U1.out.1
          go_wp2_with fail
          refine (HHi.out _).mono ?_
          rintro e u2 ⟨rfl, hb⟩
          have U2 := Lib.hid (U1.out.keep hb)
          clear h0 h1 h2 h3 hb
          go_wp2_with fail
          refine (HQ.out _).mono ?_
          rintro e u3 ⟨rfl, rfl⟩
          go_wp2_with fail
          refine (HT.out _).mono ?_
          rintro e u3 ⟨rfl, rfl⟩
          have t0 := T0.out
          go_wp2_with fail
          refine (awake20_any _).mono ?_
          rintro e u3 ⟨rfl, hb⟩
          go_wp2_with fail
          go_ret
          have e1 := U2.out.2.2.2.alloc U2.out.2.2.2.size (tokO s)
          have e2 := e1.alloc e1.size (tokO s)
          exact ⟨rfl, e2.trans (hb.mono e2.size)⟩

theorem shares_walk (a0 a1 : Int) (s : ByteArray) (a3 : Int) (w : World) :
    Calls Try.prog 7 #[.int .i64 a0, .int .i64 a1, .string s, .int .i64 a3] w fun e w' => e = .returned (.bool true) ∧ Below w.heap.size w w' := by
  by_cases hs : s.size ≤ 300
  · obtain ⟨m, k, hn, hc, n1, n2, c1, c2⟩ := nodes_of a0 a1
    obtain ⟨m, rfl⟩ := Int.eq_ofNat_of_zero_le n1
    obtain ⟨k, rfl⟩ := Int.eq_ofNat_of_zero_le c1
    exact shares_near a0 a1 a3 s m k (placeI a3 100) w hs hn hc rfl (placeI_nonneg _ _ (by omega)) (placeI_lt _ _ (by omega)) (by omega) (by omega)
  · exact shares_far a0 a1 a3 s w (by omega)

end Go.Proofs.Ytecgmmpafccbbaa
