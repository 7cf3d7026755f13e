/- The walk of the law RingPairs: the Go text, step by step. -/
import Derived.Test.YtecgmmpafccbbaaPairs
namespace Go.Proofs.Ytecgmmpafccbbaa
open Go.RowKit
set_option linter.unusedVariables false
set_option linter.unusedSimpArgs false

set_option maxHeartbeats 1000000 in
theorem pairs_far1 (a0 a1 : Int) (s v : ByteArray) (w : World) (h : 300 < s.size) :
    Calls Try.prog 10 #[.int .i64 a0, .int .i64 a1, .string s, .string v] w fun e w' => e = .returned (.bool true) ∧ Below w.heap.size w w' := by
  go_enter Try.func10, Try.ntmps10
  go_wp2_with fail
  refine (awake20_any _).mono ?_
  rintro e w1 ⟨rfl, hb⟩
  go_wp2_with fail
  go_ret
  exact ⟨rfl, hb⟩
set_option maxHeartbeats 1000000 in
theorem pairs_far2 (a0 a1 : Int) (s v : ByteArray) (w : World) (hs : s.size ≤ 300) (h : 300 < v.size) :
    Calls Try.prog 10 #[.int .i64 a0, .int .i64 a1, .string s, .string v] w fun e w' => e = .returned (.bool true) ∧ Below w.heap.size w w' := by
  go_enter Try.func10, Try.ntmps10
  go_wp2_with fail
  refine (awake20_any _).mono ?_
  rintro e w1 ⟨rfl, hb⟩
  go_wp2_with fail
  go_ret
  exact ⟨rfl, hb⟩

theorem pOk_of (n c t : Int) (s : ByteArray) (x : Int) (h : chkB n c t = true) : pOk n c t s x = pairB n c (tokI s % n) x := by unfold pOk; rw [h]; rfl
theorem pVal_of (n c t : Int) (s v : ByteArray) (x : Int) (h : chkB n c t = true) : pVal n c t s v x = pairV n c (tokI s % n) (tokI v % n) x := by unfold pVal; rw [if_pos h]

theorem pairV_bounds (n c f g x : Int) (hn : 0 < n) (hc : c ≤ n) (h : pairB n c f x = true) : 0 ≤ pairV n c f g x ∧ pairV n c f g x < n := by
  unfold pairV
  rw [if_pos h]
  unfold own
  split
  · exact ⟨Int.emod_nonneg _ (by omega), Int.emod_lt_of_pos _ hn⟩
  · omega

theorem bucket_bounds (s : ByteArray) : 0 ≤ tokI s / 134217728 ∧ tokI s / 134217728 < 16 := by
  have h0 := tokI_nonneg s
  have h1 := tokI_lt s
  omega

/-- what holds at the head of each round -/
def PairsAt (w : World) (n c f g : Int) (C S : Nat) (wr : World) (i : Nat) : Prop :=
  Conf3 wr C n c 1 ∧ Seen wr S (fun y => sawB n c f g i y) ∧ Below w.heap.size w wr

set_option maxRecDepth 100000 in
set_option maxHeartbeats 4000000 in
theorem pairs_near (a0 a1 : Int) (s v : ByteArray) (m k : Nat) (w : World) (hs : s.size ≤ 300) (hv : v.size ≤ 300) (hn : placeI a0 5 = m) (hc : placeI a1 (1 + (m : Int)) = k) (n2 : m ≤ 4) (c2 : k ≤ m) :
    Calls Try.prog 10 #[.int .i64 a0, .int .i64 a1, .string s, .string v] w fun e w' => e = .returned (.bool true) ∧ Below w.heap.size w w' := by
  have hk : chkB (1 + (m : Int)) (1 + (k : Int)) 1 = true := chkB_yes _ _ _ (by omega) (by omega) (by omega) (by omega) (by omega) (by omega)
  have f0 : 0 ≤ tokI s % (1 + (m : Int)) := Int.emod_nonneg _ (by omega)
  have f1 : tokI s % (1 + (m : Int)) < 1 + m := Int.emod_lt_of_pos _ (by omega)
  have g0 : 0 ≤ tokI v % (1 + (m : Int)) := Int.emod_nonneg _ (by omega)
  have g1 : tokI v % (1 + (m : Int)) < 1 + m := Int.emod_lt_of_pos _ (by omega)
  have HO := Lib.hid (fun w => owners_yes (1 + (m : Int)) (1 + (k : Int)) 1 s w (by omega) hk)
  have hP := fun (x : Nat) w => pair_any (1 + (m : Int)) (1 + (k : Int)) 1 x s v w (by omega) (by omega)
  have hW := fun (x : Nat) w => owns_any (1 + (m : Int)) (1 + (k : Int)) 1 x s w (by omega)
  have hK := fun (y : Nat) w => back_any (1 + (m : Int)) (1 + (k : Int)) 1 y s v w (by omega) (by omega)
  have hV := fun (y : Nat) w => owns_any (1 + (m : Int)) (1 + (k : Int)) 1 y v w (by omega)
  simp only [pOk_of _ _ _ _ _ hk, pVal_of _ _ _ _ _ _ hk] at hP hW hK hV
  obtain ⟨F, hF⟩ : ∃ F : Nat, tokI s % (1 + (m : Int)) = F := ⟨(tokI s % (1 + (m : Int))).toNat, by omega⟩
  rw [hF] at hP hW hK f0 f1
  generalize tokI s % (1 + (m : Int)) = F' at *
  subst hF
  generalize tokI v % (1 + (m : Int)) = g at *
  obtain ⟨q0, q1⟩ := bucket_bounds s
  have HT := Lib.hid (fun w => token_exact s w (by omega))
  have HQ := Lib.hid (fun w => bucket_exact s w (by omega))
  have t0 := tokI_nonneg s
  generalize tokI s / 134217728 = q at *
  have T0 := Lib.hid t0
  have Q0 := Lib.hid q0
  have Q1 := Lib.hid q1
  have HP := Lib.hid hP
  have HW := Lib.hid hW
  have HK := Lib.hid hK
  have HV := Lib.hid hV
  have HN := Lib.hid hn
  have HC := Lib.hid hc
  have HCK := Lib.hid hk
  clear hP hW hK hV hn hc hk t0 q0 q1
  go_enter Try.func10, Try.ntmps10
  go_wp2_with fail
  refine (place_is _ _ _ HN.out (by omega) (by omega) _).mono ?_
  rintro e w1 ⟨rfl, rfl⟩
  go_wp2_with fail
  refine (place_is _ _ _ HC.out (by omega) (by omega) _).mono ?_
  rintro e w1 ⟨rfl, rfl⟩
  go_wp2_with fail
  refine (HO.out _).mono ?_
  rintro e w1 ⟨b, rfl, -, -, -, hb⟩
  have C1 := Lib.hid ((Conf3.new w (1 + (m : Int)) (1 + (k : Int)) 1).keep hb)
  have B1 := Lib.hid ((Below.one w _ (Nat.le_refl _)).trans (hb.mono (by simp)))
  clear hb
  have HL : Hid ((((1 + (k : Int)).toNat : Nat) : Int) = 1 + (k : Int)) := Int.toNat_of_nonneg (by omega)
  generalize (1 + (k : Int)).toNat = L at *
  go_wp2_with fail
  have hC0 := C1.out.keep (Below.one w1 (.cells #[.bool false, .bool false, .bool false, .bool false, .bool false] 47) (Nat.le_refl _))
  have hS0 := Seen.new w1
  have hB0 := B1.out.trans (Below.one w1 (.cells #[.bool false, .bool false, .bool false, .bool false, .bool false] 47) B1.out.size)
  have hW0 : Hid (PairsAt w (1 + (m : Int)) (1 + (k : Int)) F g w.heap.size w1.heap.size (w1.alloc (.cells #[.bool false, .bool false, .bool false, .bool false, .bool false] 47)) 0) := ⟨hC0, hS0, hB0⟩
  have hNE : w1.heap.size ≠ w.heap.size := by have := C1.out.2.2.2; omega
  have HNE := Lib.hid hNE
  have hSB : w.heap.size ≤ w1.heap.size := B1.out.size
  clear hC0 hS0 hB0 hNE C1 B1
  generalize w1.alloc _ = W0 at *
  generalize w1.heap.size = S at *
  go_loopw [13, 14] (fun pv iv wr => ∃ i : Nat, i ≤ m + 1 ∧ iv = .int .i64 i ∧ pv = .int .i64 (cntI (1 + (m : Int)) (1 + (k : Int)) F i) ∧ PairsAt w (1 + (m : Int)) (1 + (k : Int)) F g w.heap.size S wr i) (fun _ iv _ => m + 1 - (intOf iv).toNat)
  case atStart => exact ⟨0, by omega, rfl, rfl, hW0.out⟩
  case round =>
    clear hW0
    obtain ⟨i, hi, rfl, rfl, hat⟩ := hrel
    have HA := Lib.hid hat
    obtain ⟨⟨h0, h1, h2, h3⟩, -, -⟩ := hat
    have hcb := cnt_bounds (1 + (m : Int)) (1 + (k : Int)) F i
    obtain ⟨cb0, cb1⟩ := hcb
    by_cases hlt : (i : Int) < 1 + (m : Int)
    · cases hpb : pairB (1 + (m : Int)) (1 + (k : Int)) F i with
      | false =>
        have hP := HP.out i
        have hW := HW.out i
        rw [hpb] at hP hW
        rw [pairV_no _ _ _ _ _ hpb] at hP
        have HPi := Lib.hid hP
        have HWi := Lib.hid hW
        have HPB := Lib.hid hpb
        have HCS := Lib.hid (cnt_skip _ _ _ _ hpb)
        clear hP hW hpb
        generalize cntI (1 + (m : Int)) (1 + (k : Int)) F i = p at *
        go_wp2_with fail
        refine (HPi.out _).mono ?_
        rintro e w2 ⟨rfl, hb⟩
        clear h0 h1 h2 h3
        have hc := HA.out.1.keep hb
        have HA2 : Hid (PairsAt w (1 + (m : Int)) (1 + (k : Int)) F g w.heap.size S w2 i) := ⟨hc, HA.out.2.1.keep hb, HA.out.2.2.trans (hb.mono HA.out.2.2.size)⟩
        obtain ⟨h0, h1, h2, h3⟩ := hc
        clear hb HA
        go_wp2_with fail
        refine (HWi.out _).mono ?_
        rintro e w3 ⟨rfl, hb⟩
        clear h0 h1 h2 h3
        have HA3 : Hid (PairsAt w (1 + (m : Int)) (1 + (k : Int)) F g w.heap.size S w3 (i + 1)) := ⟨HA2.out.1.keep hb, by
          have := HA2.out.2.1.keep hb
          simpa only [saw_skip _ _ _ _ _ _ HPB.out] using this, HA2.out.2.2.trans (hb.mono HA2.out.2.2.size)⟩
        clear hb HA2
        go_wp2_with fail
        go_roundw
        case rel => exact ⟨i + 1, by omega, by go_num, by rw [HCS.out], HA3.out⟩
        case measure => simp [intOf]; omega
      | true =>
        obtain ⟨y0, y1⟩ := pairV_bounds (1 + (m : Int)) (1 + (k : Int)) F g i (by omega) (by omega) hpb
        obtain ⟨y, hyv⟩ := Int.eq_ofNat_of_zero_le y0
        have hback := pair_back (1 + (m : Int)) (1 + (k : Int)) F g i (by omega) (by omega) (by omega) f1 g0 g1 hpb
        rw [hyv] at y0 y1 hback
        have hP := HP.out i
        have hW := HW.out i
        have hK := HK.out y
        have hV := HV.out y
        rw [hpb] at hP hW
        rw [hyv] at hP
        rw [hback.1, hback.2] at hK
        rw [hback.1] at hV
        have HPi := Lib.hid hP
        have HWi := Lib.hid hW
        have HKi := Lib.hid hK
        have HVi := Lib.hid hV
        have HPB := Lib.hid hpb
        have HYV := Lib.hid hyv
        have HCS := Lib.hid (cnt_hit _ _ _ _ hpb)
        have HNW := Lib.hid (saw_new (1 + (m : Int)) (1 + (k : Int)) F g i y (by omega) (by omega) (by omega) f1 g0 g1 hpb hyv)
        clear hP hW hK hV hpb hback hyv y0
        generalize cntI (1 + (m : Int)) (1 + (k : Int)) F i = p at *
        go_wp2_with fail
        refine (HPi.out _).mono ?_
        rintro e w2 ⟨rfl, hb⟩
        clear h0 h1 h2 h3
        have hc := HA.out.1.keep hb
        have HA2 : Hid (PairsAt w (1 + (m : Int)) (1 + (k : Int)) F g w.heap.size S w2 i) := ⟨hc, HA.out.2.1.keep hb, HA.out.2.2.trans (hb.mono HA.out.2.2.size)⟩
        obtain ⟨h0, h1, h2, h3⟩ := hc
        clear hb HA
        go_wp2_with fail
        refine (HWi.out _).mono ?_
        rintro e w3 ⟨rfl, hb⟩
        clear h0 h1 h2 h3
        have hc := HA2.out.1.keep hb
        have HA3 : Hid (PairsAt w (1 + (m : Int)) (1 + (k : Int)) F g w.heap.size S w3 i) := ⟨hc, HA2.out.2.1.keep hb, HA2.out.2.2.trans (hb.mono HA2.out.2.2.size)⟩
        obtain ⟨h0, h1, h2, h3⟩ := hc
        clear hb HA2
        go_wp2_with fail
        refine (HKi.out _).mono ?_
        rintro e w4 ⟨rfl, hb⟩
        clear h0 h1 h2 h3
        have hc := HA3.out.1.keep hb
        have HA4 : Hid (PairsAt w (1 + (m : Int)) (1 + (k : Int)) F g w.heap.size S w4 i) := ⟨hc, HA3.out.2.1.keep hb, HA3.out.2.2.trans (hb.mono HA3.out.2.2.size)⟩
        obtain ⟨h0, h1, h2, h3⟩ := hc
        have hse : w4.cell? ⟨S, y, none⟩ = some (.bool false) := (HA4.out.2.1.1 y (by omega)).trans (congrArg (fun b => some (Value.bool b)) HNW.out)
        clear hb HA3
        go_wp2_with fail
        refine (HVi.out _).mono ?_
        rintro e w5 ⟨rfl, hb⟩
        clear h0 h1 h2 h3 hse
        have hc := HA4.out.1.keep hb
        have HA5 : Hid (PairsAt w (1 + (m : Int)) (1 + (k : Int)) F g w.heap.size S w5 i) := ⟨hc, HA4.out.2.1.keep hb, HA4.out.2.2.trans (hb.mono HA4.out.2.2.size)⟩
        have hse : w5.cell? ⟨S, y, none⟩ = some (.bool false) := (HA5.out.2.1.1 y (by omega)).trans (congrArg (fun b => some (Value.bool b)) HNW.out)
        have hsf : w5.frozen? ⟨S, y, none⟩ = false := HA5.out.2.1.2.1 y (by omega)
        have HA6 : Hid (PairsAt w (1 + (m : Int)) (1 + (k : Int)) F g w.heap.size S (w5.setCell ⟨S, y, none⟩ (.bool true)) (i + 1)) := ⟨HA5.out.1.store HNE.out _, HA5.out.2.1.store (by omega) (saw_this _ _ _ _ _ _ HPB.out HYV.out) (fun z hz => saw_other _ _ _ _ _ _ _ HYV.out hz), HA5.out.2.2.setCell (p := ⟨S, y, none⟩) hSB _⟩
        clear hb HA4 HA5 hc
        go_wp2_with fail
        go_roundw
        case rel => exact ⟨i + 1, by omega, by go_num, by rw [HCS.out], HA6.out⟩
        case measure => simp [intOf]; omega
    · obtain rfl : i = m + 1 := by omega
      have HCA := Lib.hid (cnt_all m k F (by omega) (by omega) (by omega))
      rw [HCA.out]
      have hl := HL.out
      have hl1 : ((L : Int) == 1 + (k : Int)) = true := by simpa using hl
      clear hl
      go_wp2_with fail
      refine (HT.out _).mono ?_
      rintro e w2 ⟨rfl, rfl⟩
      have t0 := T0.out
      go_wp2_with fail
      refine (HQ.out _).mono ?_
      rintro e w2 ⟨rfl, rfl⟩
      have q0 := Q0.out
      have q1 := Q1.out
      go_wp2_with fail
      refine (HQ.out _).mono ?_
      rintro e w2 ⟨rfl, rfl⟩
      go_wp2_with fail
      refine (awake20_any _).mono ?_
      rintro e w2 ⟨rfl, hb⟩
      go_wp2_with fail
      go_ret
      have e1 := HA.out.2.2.alloc HA.out.2.2.size (tokO s)
      have e2 := e1.alloc e1.size (tokO s)
      have e3 := e2.alloc e2.size (tokO s)
      exact ⟨rfl, e3.trans (hb.mono e3.size)⟩

theorem pairs_walk (a0 a1 : Int) (s v : ByteArray) (w : World) :
    Calls Try.prog 10 #[.int .i64 a0, .int .i64 a1, .string s, .string v] w fun e w' => e = .returned (.bool true) ∧ Below w.heap.size w w' := by
  by_cases hs : s.size ≤ 300
  · by_cases hv : v.size ≤ 300
    · obtain ⟨m, k, hn, hc, n1, n2, c1, c2⟩ := nodes_of a0 a1
      obtain ⟨m, rfl⟩ := Int.eq_ofNat_of_zero_le n1
      obtain ⟨k, rfl⟩ := Int.eq_ofNat_of_zero_le c1
      exact pairs_near a0 a1 s v m k w hs hv hn hc (by omega) (by omega)
    · exact pairs_far2 a0 a1 s v w hs (by omega)
  · exact pairs_far1 a0 a1 s v w (by omega)

end Go.Proofs.Ytecgmmpafccbbaa
