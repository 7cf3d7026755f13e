/- The contracts of the reference's package of chapter 20. -/
import Derived.Test.YtecgmmpafccbbaaPairsWalk
import Derived.WalkSpells
import Derived.Lib.SmallJoins
namespace Go.Proofs.Ytecgmmpafccbbaa
open Go.RowKit
set_option linter.unusedVariables false
set_option linter.unusedSimpArgs false

set_option maxHeartbeats 400000 in
theorem refcheck_any (n c t : Int) (w : World) :
    Calls Try.prog 30 #[.agg #[.int .i64 n, .int .i64 c, .int .i64 t]] w fun e w' => e = .returned (.bool (chkB n c t)) ∧ w.alloc (confO n c t) = w' := by
  go_enter Try.func30, Try.ntmps30
  go_wp2
  all_goals
    go_ret
    refine ⟨?_, rfl⟩
    first | (simp [chkB, *]; done) | (simp [chkB, *]; intros; omega)

theorem info3 : (Try.prog.info? 3).map (fun i => (i.zero, i.size, i.bytes)) = some (some (.int .i64 0), 1, 8) := by kernel_rfl

/-- the first k owners -/
def ownL (n c f : Int) (k : Nat) : List Value := (List.range k).map fun (j : Nat) => Value.int .i64 (own n c f (j : Int))
theorem ownL_succ (n c f : Int) (k : Nat) : ownL n c f k ++ [Value.int .i64 (own n c f k)] = ownL n c f (k + 1) := by
  unfold ownL; rw [List.range_succ, List.map_append]; rfl
theorem ownL_at (n c f : Int) (k j : Nat) (h : j < k) : (ownL n c f k)[j]? = some (.int .i64 (own n c f j)) := by
  unfold ownL; simp [h]

/-- a slice of so many owners in memory of its own -/
def RefOwnersAt (w w' : World) (n c f : Int) (e : Ending) : Prop := ∃ b L cap : Nat, e = .returned (.slice (some ⟨b, 0, none⟩) L cap) ∧ (L : Int) = c ∧ (∀ k : Nat, k < L → w'.cell? ⟨b, k, none⟩ = some (.int .i64 (own n c f k))) ∧ b < w'.heap.size ∧ w.heap.size ≤ b ∧ Below w.heap.size w w'

set_option maxHeartbeats 400000 in
theorem refowners_no (n c t : Int) (s : ByteArray) (w : World) (hs : s.size ≤ 1000) (h : chkB n c t = false) :
    Calls Try.prog 32 #[.agg #[.int .i64 n, .int .i64 c, .int .i64 t], .string s] w fun e w' => e = .returned (.slice none 0 0) ∧ Below w.heap.size w w' := by
  have hk := fun w => refcheck_any n c t w
  rw [h] at hk
  have HK := Lib.hid hk
  clear hk h
  go_enter Try.func32, Try.ntmps32
  go_wp2_with fail
  refine (HK.out _).mono ?_
  rintro e w1 ⟨rfl, rfl⟩
  go_wp2_with fail
  go_ret
  exact ⟨rfl, ((Below.refl _ _).alloc (Nat.le_refl _) _).alloc (by simp) _⟩

/-- what holds at the head of the reference's rounds -/
def RefAt (w : World) (n c t f : Int) (wr : World) (v : Value) (k : Nat) : Prop :=
  Conf3 wr w.heap.size n c t ∧ wr.ownsRow (w.heap.size + 1) 3 1 v k (ownL n c f k) ∧ Below w.heap.size w wr

set_option maxHeartbeats 2000000 in
theorem refowners_yes (n c t : Int) (s : ByteArray) (w : World) (hs : s.size ≤ 1000) (h : chkB n c t = true) :
    Calls Try.prog 32 #[.agg #[.int .i64 n, .int .i64 c, .int .i64 t], .string s] w fun e w' => RefOwnersAt w w' n c (tokI s % n) e := by
  obtain ⟨n1, n2, c1, c2, -, -⟩ := chkB_of n c t h
  have hk := fun w => refcheck_any n c t w
  rw [h] at hk
  have HK := Lib.hid hk
  clear hk h
  obtain ⟨i0, hi, hz0, hz1, hz2⟩ := info_parts info3
  have HT := Lib.hid (fun w => refof_any s w (by unfold maxLen; omega))
  have t0 := tokI_nonneg s
  have hr : (tokI s).tmod n = tokI s % n := Int.tmod_eq_emod_of_nonneg t0
  have f0 : 0 ≤ tokI s % n := Int.emod_nonneg _ (by omega)
  have f1 : tokI s % n < n := Int.emod_lt_of_pos _ (by omega)
  have hw : IntKind.i64.wrap (tokI s % n) = tokI s % n := IntWalk.i64_in _ (by omega)
  have hn0 : ¬ n = 0 := by omega
  have hT : Hid (∀ w, Calls Try.prog 17 #[.string s] w fun e w' => e = .returned (.int .i64 (tokI s)) ∧ w = w') := HT
  clear HT
  generalize tokI s % n = f at *
  have HI0 := Lib.hid hi
  have HI1 := Lib.hid hz0
  have HI2 := Lib.hid hz1
  have HI3 := Lib.hid hz2
  clear hi hz0 hz1 hz2
  go_enter Try.func32, Try.ntmps32
  go_wp2_with fail
  refine (HK.out _).mono ?_
  rintro e w1 ⟨rfl, rfl⟩
  go_wp2_with fail
  go_region_held3 (fun w' => w'.cell? ⟨w.heap.size, 0, none⟩ = some (.int .i64 n)) (go_keep) (first | (go_at_call 17; refine (hT.out _).mono ?_; rintro e w3 ⟨rfl, rfl⟩))
  rename_i hh
  clear hh hr hw hn0 t0
  have hA0 : Hid (RefAt w n c t f ((w.alloc (.cells #[.int .i64 n, .int .i64 c, .int .i64 t] 35)).alloc (confO n c t)).drew (.slice none 0 0) 0) :=
    ⟨((Conf3.new w n c t).keep (Below.one _ _ (Nat.le_refl _))).keep ((Below.refl _ _).drew), World.ownsRow_nil _ _ _ _, (((Below.refl _ _).alloc (Nat.le_refl _) _).alloc (by simp) _).drew⟩
  go_wp2_with fail
  generalize (World.alloc _ (confO n c t)).drew = W1 at *
  go_loopw [5, 7] (fun lv iv wr => ∃ k : Nat, (k : Int) ≤ c ∧ iv = .int .i64 k ∧ RefAt w n c t f wr lv k) (fun _ iv _ => (c - intOf iv).toNat)
  case atStart => exact ⟨0, by omega, rfl, hA0.out⟩
  case round =>
    clear hA0
    obtain ⟨k, hk, rfl, hat⟩ := hrel
    have HA := Lib.hid hat
    obtain ⟨⟨h0, h1, h2, h3⟩, -, -⟩ := hat
    by_cases hlt : (k : Int) < c
    · have ek : own n c f k = (f + k) % n := if_pos hlt
      have hsn : Hid (ownL n c f k ++ [Value.int .i64 ((f + k) % n)] = ownL n c f (k + 1)) := by rw [← ek]; exact ownL_succ n c f k
      clear ek
      go_wp2_with (first | (at_builtin; refine wpList_append_own _ rfl _ _ 36 rfl (w.heap.size + 1) 3 i0 (.int .i64 0) 1 8 Try.underlying36 HI0.out HI1.out HI2.out HI3.out rfl (by decide) _ _ _ rfl (HA.out.2.1.alloc _) ⟨wr.heap.size, 0, none⟩ 1 1 [.int .i64 ((f + k) % n)] rfl rfl ?c1 ?c2 ?c3 ?c4 ?c5 ?_))
      case c1 => exact cell_one_new _ _ _
      case c2 => intro u hu; simp at hu; subst hu; rfl
      case c3 => unfold maxLen; omega
      case c4 => omega
      case c5 => have := HA.out.2.2.size; simp; omega
      intro v' w4 hown' hgrow _
      rw [hsn.out] at hown'
      have hlt2 := HA.out.2.1.lt
      have hco : Conf3 (wr.alloc (.cells #[.int .i64 ((f + k) % n)] 3)) w.heap.size n c t := HA.out.1.keep (Below.one _ _ (Nat.le_refl _))
      have hne : ∀ g, u5.ownBlock = some g → w.heap.size + 1 ≤ g := fun g hg => (hlt2 g hg).1
      have hbl : w4.heap[w.heap.size]? = (wr.alloc (.cells #[.int .i64 ((f + k) % n)] 3)).heap[w.heap.size]? := hgrow.block _ hco.2.2.2 (fun e => by have := hne _ e.symm; omega)
      have HA2 : Hid (RefAt w n c t f w4 v' (k + 1)) := by
        refine ⟨⟨?_, ?_, ?_, Nat.lt_of_lt_of_le hco.2.2.2 hgrow.size⟩, hown', ?_⟩
        · rw [World.cell?_of_block hbl]; exact hco.1
        · rw [World.cell?_of_block hbl]; exact hco.2.1
        · rw [World.cell?_of_block hbl]; exact hco.2.2.1
        · exact (HA.out.2.2.alloc HA.out.2.2.size _).grown hgrow (by have := HA.out.2.2.size; simp; omega) (fun g hg => by have := hne g hg; omega)
      clear hown' hgrow hlt2 hco hne hbl h0 h1 h2 h3 HA
      go_wp2_with fail
      go_roundw
      case rel => exact ⟨k + 1, by omega, by go_num, HA2.out⟩
      case measure => simp [intOf]; omega
    · have hge : c ≤ (k : Int) := by omega
      obtain ⟨g, cap, hv⟩ := Joins.ownsRow_form HA.out.2.1 (by omega)
      subst hv
      go_wp2_with fail
      go_ret
      refine ⟨g, k, cap, rfl, by omega, fun j hj => ?_, ?_, ?_, HA.out.2.2⟩
      · rw [HA.out.2.1.cellAt j (by omega), ownL_at _ _ _ _ _ hj]
      · exact (HA.out.2.1.lt g rfl).2
      · have := (HA.out.2.1.lt g rfl).1; omega

end Go.Proofs.Ytecgmmpafccbbaa
