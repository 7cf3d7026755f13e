/- The walk of the law RingAll. -/
import Derived.Test.YtecgmmpafccbbaaRefPair
namespace Go.Proofs.Ytecgmmpafccbbaa
open Go.RowKit
set_option linter.unusedVariables false
set_option linter.unusedSimpArgs false

set_option maxHeartbeats 1000000 in
theorem all20_far1 (n c t x : Int) (s v : ByteArray) (w : World) (h : 1000 < s.size) :
    Calls Try.prog 9 #[.agg #[.int .i64 n, .int .i64 c, .int .i64 t], .string s, .string v, .int .i64 x] w fun e w' => e = .returned (.bool true) ∧ Below w.heap.size w w' := by
  go_enter Try.func9, Try.ntmps9
  go_wp2_with fail
  refine (awake20_any _).mono ?_
  rintro e w1 ⟨rfl, hb⟩
  go_wp2_with fail
  go_ret
  exact ⟨rfl, (Conf3.box w w1 n c t hb).2⟩
set_option maxHeartbeats 1000000 in
theorem all20_far2 (n c t x : Int) (s v : ByteArray) (w : World) (hs : s.size ≤ 1000) (h : 1000 < v.size) :
    Calls Try.prog 9 #[.agg #[.int .i64 n, .int .i64 c, .int .i64 t], .string s, .string v, .int .i64 x] w fun e w' => e = .returned (.bool true) ∧ Below w.heap.size w w' := by
  go_enter Try.func9, Try.ntmps9
  go_wp2_with fail
  refine (awake20_any _).mono ?_
  rintro e w1 ⟨rfl, hb⟩
  go_wp2_with fail
  go_ret
  exact ⟨rfl, (Conf3.box w w1 n c t hb).2⟩

theorem check_below (n c t : Int) (b : Bool) (h : chkB n c t = b) (w : World) : Calls Try.prog 25 #[.agg #[.int .i64 n, .int .i64 c, .int .i64 t]] w fun e w' => e = .returned (.bool b) ∧ Below w.heap.size w w' := by
  have := check_any n c t w
  rw [h] at this
  exact this.mono fun _ _ ⟨he, hw⟩ => ⟨he, hw ▸ Below.one _ _ (Nat.le_refl _)⟩
theorem refcheck_below (n c t : Int) (b : Bool) (h : chkB n c t = b) (w : World) : Calls Try.prog 30 #[.agg #[.int .i64 n, .int .i64 c, .int .i64 t]] w fun e w' => e = .returned (.bool b) ∧ Below w.heap.size w w' := by
  have := refcheck_any n c t w
  rw [h] at this
  exact this.mono fun _ _ ⟨he, hw⟩ => ⟨he, hw ▸ Below.one _ _ (Nat.le_refl _)⟩
theorem bucket_below (s : ByteArray) (hs : s.size ≤ 1000) (w : World) : Calls Try.prog 26 #[.string s] w fun e w' => e = .returned (.int .i64 (tokI s / 134217728)) ∧ Below w.heap.size w w' :=
  (bucket_exact s w hs).mono fun _ _ ⟨he, hw⟩ => ⟨he, hw ▸ Below.one _ _ (Nat.le_refl _)⟩

/-- the configuration's cells, and what stood when the call began -/
def AllAt (w : World) (n c t : Int) (wr : World) : Prop := Conf3 wr w.heap.size n c t ∧ Below w.heap.size w wr
theorem AllAt.keep {w w1 w2 : World} {n c t : Int} (h : AllAt w n c t w1) (hb : Below w1.heap.size w1 w2) : AllAt w n c t w2 := ⟨h.1.keep hb, h.2.trans (hb.mono h.2.size)⟩

set_option maxRecDepth 100000 in
set_option maxHeartbeats 8000000 in
theorem all20_true (n c t x : Int) (s v : ByteArray) (w : World) (hs : s.size ≤ 1000) (hv : v.size ≤ 1000) (h : chkB n c t = true) :
    Calls Try.prog 9 #[.agg #[.int .i64 n, .int .i64 c, .int .i64 t], .string s, .string v, .int .i64 x] w fun e w' => e = .returned (.bool true) ∧ Below w.heap.size w w' := by
  obtain ⟨n1, n2, c1, c2, -, -⟩ := chkB_of n c t h
  have D22 := Lib.hid (fun w => owners_yes n c t s w hs h)
  have D32 := Lib.hid (fun w => refowners_yes n c t s w hs h)
  have D25 := Lib.hid (fun w => check_below n c t true h w)
  have D30 := Lib.hid (fun w => refcheck_below n c t true h w)
  have D27 := Lib.hid (fun w => pair_any n c t x s v w hs hv)
  have D29 := Lib.hid (fun w => refpair_any n c t x s v w hs hv)
  have D28 := Lib.hid (fun w => back_any n c t x s v w hs hv)
  have D29b := Lib.hid (fun w => refpair_any n c t x v s w hv hs)
  have D24 := Lib.hid (fun w => owns_any n c t x s w hs)
  have D33 := Lib.hid (fun w => refowns_any n c t x s w hs)
  have D26 := Lib.hid (fun w => bucket_below s hs w)
  have D34 := Lib.hid (fun w => refbucket_any s w hs)
  clear h
  generalize tokI s % n = F at *
  generalize tokI s / 134217728 = q at *
  generalize pVal n c t s v x = p1 at *
  generalize pVal n c t v s x = p2 at *
  generalize pOk n c t s x = o1 at *
  generalize pOk n c t v x = o2 at *
  go_enter Try.func9, Try.ntmps9
  go_wp2_with fail
  refine (D27.out _).mono ?_
  rintro e w1 ⟨rfl, hb⟩
  have A1 : Hid (AllAt w n c t w1) := Conf3.box w w1 n c t hb
  clear hb
  obtain ⟨h0, h1, h2, h3⟩ := A1.out.1
  go_wp2_with fail
  refine (D29.out _).mono ?_
  rintro e w2 ⟨rfl, hb⟩
  clear h0 h1 h2 h3
  have A2 := Lib.hid (A1.out.keep hb)
  clear hb A1
  obtain ⟨h0, h1, h2, h3⟩ := A2.out.1
  go_wp2_with fail
  refine (D28.out _).mono ?_
  rintro e w3 ⟨rfl, hb⟩
  clear h0 h1 h2 h3
  have A3 := Lib.hid (A2.out.keep hb)
  clear hb A2
  obtain ⟨h0, h1, h2, h3⟩ := A3.out.1
  go_wp2_with fail
  refine (D29b.out _).mono ?_
  rintro e w4 ⟨rfl, hb⟩
  clear h0 h1 h2 h3
  have A4 := Lib.hid (A3.out.keep hb)
  clear hb A3
  obtain ⟨h0, h1, h2, h3⟩ := A4.out.1
  go_wp2_with fail
  have A5 := Lib.hid (A4.out.keep ((Below.refl _ _).drew))
  go_region_held3 (fun w' => w'.cell? ⟨w.heap.size, 0, none⟩ = some (.int .i64 n) ∧ w'.cell? ⟨w.heap.size, 1, none⟩ = some (.int .i64 c) ∧ w'.cell? ⟨w.heap.size, 2, none⟩ = some (.int .i64 t)) (go_keep) (first | (go_at_call 25; refine (D25.out _).mono ?_; rintro e y1 ⟨rfl, hb⟩; have A6 := Lib.hid (A5.out.keep hb); obtain ⟨k0, k1, k2, k3⟩ := A6.out.1; clear hb) | (go_at_call 30; refine (D30.out _).mono ?_; rintro e y2 ⟨rfl, hb⟩; clear k0 k1 k2 k3; have A7 := Lib.hid (A6.out.keep hb); obtain ⟨k0, k1, k2, k3⟩ := A7.out.1; clear hb) | (go_at_call 22; refine (D22.out _).mono ?_; rintro e y3 ⟨b1, rfl, hcl, hb1, -, hb⟩; have X1 := Lib.hid hcl; have Y1 := Lib.hid hb1; clear k0 k1 k2 k3 hcl hb1; have A8 := Lib.hid (A7.out.keep hb); obtain ⟨k0, k1, k2, k3⟩ := A8.out.1; clear hb) | (go_at_call 32; refine (D32.out _).mono ?_; rintro e y4 ⟨b2, L, cap, rfl, hL, hcl, -, -, hb⟩; obtain rfl : L = c.toNat := (by omega); have X2 := Lib.hid hcl; have X3 : Hid (∀ k : Nat, k < 5 → y4.cell? ⟨b1, k, none⟩ = some (.int .i64 (own n c F k))) := fun k hk => ((bcell hb).1 _ _ Y1.out).trans (X1.out k hk); clear k0 k1 k2 k3 hcl hL X1 Y1; have A9 := Lib.hid (A8.out.keep hb); obtain ⟨k0, k1, k2, k3⟩ := A9.out.1; clear hb) | (go_at_call 31; refine (same_cells b1 b2 c.toNat 5 cap (fun k => own n c F (k : Int)) _ (by omega) (fun k hk => X3.out k (by omega)) X2.out).mono ?_; rintro e y5 ⟨rfl, hb⟩; clear k0 k1 k2 k3 X2 X3; have B0 := Lib.hid (A9.out.keep hb); obtain ⟨k0, k1, k2, k3⟩ := B0.out.1; clear hb) | (go_at_call 24; refine (D24.out _).mono ?_; rintro e y6 ⟨rfl, hb⟩; clear k0 k1 k2 k3; have B1 := Lib.hid (B0.out.keep hb); obtain ⟨k0, k1, k2, k3⟩ := B1.out.1; clear hb) | (go_at_call 33; refine (D33.out _).mono ?_; rintro e y7 ⟨rfl, hb⟩; clear k0 k1 k2 k3; have B2 := Lib.hid (B1.out.keep hb); obtain ⟨k0, k1, k2, k3⟩ := B2.out.1; clear hb) | (go_at_call 26; refine (D26.out _).mono ?_; rintro e y8 ⟨rfl, hb⟩; clear k0 k1 k2 k3; have B3 := Lib.hid (B2.out.keep hb); obtain ⟨k0, k1, k2, k3⟩ := B3.out.1; clear hb) | (go_at_call 34; refine (D34.out _).mono ?_; rintro e y9 ⟨rfl, rfl⟩) | (go_at_call 21; refine (awake20_any _).mono ?_; rintro e y10 ⟨rfl, hb⟩; clear k0 k1 k2 k3; have B4 := Lib.hid (B3.out.keep hb); obtain ⟨k0, k1, k2, k3⟩ := B4.out.1; clear hb))
  go_wp2_with fail
  go_ret
  exact ⟨rfl, B4.out.2⟩

set_option maxRecDepth 100000 in
set_option maxHeartbeats 8000000 in
theorem all20_false (n c t x : Int) (s v : ByteArray) (w : World) (hs : s.size ≤ 1000) (hv : v.size ≤ 1000) (h : chkB n c t = false) :
    Calls Try.prog 9 #[.agg #[.int .i64 n, .int .i64 c, .int .i64 t], .string s, .string v, .int .i64 x] w fun e w' => e = .returned (.bool true) ∧ Below w.heap.size w w' := by
  have D22 := Lib.hid (fun w => owners_no n c t s w hs h)
  have D32 := Lib.hid (fun w => refowners_no n c t s w hs h)
  have D25 := Lib.hid (fun w => check_below n c t false h w)
  have D30 := Lib.hid (fun w => refcheck_below n c t false h w)
  have D27 := Lib.hid (fun w => pair_any n c t x s v w hs hv)
  have D29 := Lib.hid (fun w => refpair_any n c t x s v w hs hv)
  have D28 := Lib.hid (fun w => back_any n c t x s v w hs hv)
  have D29b := Lib.hid (fun w => refpair_any n c t x v s w hv hs)
  have D24 := Lib.hid (fun w => owns_any n c t x s w hs)
  have D33 := Lib.hid (fun w => refowns_any n c t x s w hs)
  have D26 := Lib.hid (fun w => bucket_below s hs w)
  have D34 := Lib.hid (fun w => refbucket_any s w hs)
  clear h
  generalize tokI s / 134217728 = q at *
  generalize pVal n c t s v x = p1 at *
  generalize pVal n c t v s x = p2 at *
  generalize pOk n c t s x = o1 at *
  generalize pOk n c t v x = o2 at *
  go_enter Try.func9, Try.ntmps9
  go_wp2_with fail
  refine (D27.out _).mono ?_
  rintro e w1 ⟨rfl, hb⟩
  have A1 : Hid (AllAt w n c t w1) := Conf3.box w w1 n c t hb
  clear hb
  obtain ⟨h0, h1, h2, h3⟩ := A1.out.1
  go_wp2_with fail
  refine (D29.out _).mono ?_
  rintro e w2 ⟨rfl, hb⟩
  clear h0 h1 h2 h3
  have A2 := Lib.hid (A1.out.keep hb)
  clear hb A1
  obtain ⟨h0, h1, h2, h3⟩ := A2.out.1
  go_wp2_with fail
  refine (D28.out _).mono ?_
  rintro e w3 ⟨rfl, hb⟩
  clear h0 h1 h2 h3
  have A3 := Lib.hid (A2.out.keep hb)
  clear hb A2
  obtain ⟨h0, h1, h2, h3⟩ := A3.out.1
  go_wp2_with fail
  refine (D29b.out _).mono ?_
  rintro e w4 ⟨rfl, hb⟩
  clear h0 h1 h2 h3
  have A4 := Lib.hid (A3.out.keep hb)
  clear hb A3
  obtain ⟨h0, h1, h2, h3⟩ := A4.out.1
  go_wp2_with fail
  have A5 := Lib.hid (A4.out.keep ((Below.refl _ _).drew))
  go_region_held3 (fun w' => w'.cell? ⟨w.heap.size, 0, none⟩ = some (.int .i64 n) ∧ w'.cell? ⟨w.heap.size, 1, none⟩ = some (.int .i64 c) ∧ w'.cell? ⟨w.heap.size, 2, none⟩ = some (.int .i64 t)) (go_keep) (first | (go_at_call 25; refine (D25.out _).mono ?_; rintro e y1 ⟨rfl, hb⟩; have A6 := Lib.hid (A5.out.keep hb); obtain ⟨k0, k1, k2, k3⟩ := A6.out.1; clear hb) | (go_at_call 30; refine (D30.out _).mono ?_; rintro e y2 ⟨rfl, hb⟩; clear k0 k1 k2 k3; have A7 := Lib.hid (A6.out.keep hb); obtain ⟨k0, k1, k2, k3⟩ := A7.out.1; clear hb) | (go_at_call 22; refine (D22.out _).mono ?_; rintro e y3 ⟨rfl, hb⟩; clear k0 k1 k2 k3; have A8 := Lib.hid (A7.out.keep hb); obtain ⟨k0, k1, k2, k3⟩ := A8.out.1; clear hb) | (go_at_call 32; refine (D32.out _).mono ?_; rintro e y4 ⟨rfl, hb⟩; clear k0 k1 k2 k3; have A9 := Lib.hid (A8.out.keep hb); obtain ⟨k0, k1, k2, k3⟩ := A9.out.1; clear hb) | (go_at_call 31; refine (same_nil _).mono ?_; rintro e y5 ⟨rfl, hb⟩; clear k0 k1 k2 k3; have B0 := Lib.hid (A9.out.keep hb); obtain ⟨k0, k1, k2, k3⟩ := B0.out.1; clear hb) | (go_at_call 24; refine (D24.out _).mono ?_; rintro e y6 ⟨rfl, hb⟩; clear k0 k1 k2 k3; have B1 := Lib.hid (B0.out.keep hb); obtain ⟨k0, k1, k2, k3⟩ := B1.out.1; clear hb) | (go_at_call 33; refine (D33.out _).mono ?_; rintro e y7 ⟨rfl, hb⟩; clear k0 k1 k2 k3; have B2 := Lib.hid (B1.out.keep hb); obtain ⟨k0, k1, k2, k3⟩ := B2.out.1; clear hb) | (go_at_call 26; refine (D26.out _).mono ?_; rintro e y8 ⟨rfl, hb⟩; clear k0 k1 k2 k3; have B3 := Lib.hid (B2.out.keep hb); obtain ⟨k0, k1, k2, k3⟩ := B3.out.1; clear hb) | (go_at_call 34; refine (D34.out _).mono ?_; rintro e y9 ⟨rfl, rfl⟩) | (go_at_call 21; refine (awake20_any _).mono ?_; rintro e y10 ⟨rfl, hb⟩; clear k0 k1 k2 k3; have B4 := Lib.hid (B3.out.keep hb); obtain ⟨k0, k1, k2, k3⟩ := B4.out.1; clear hb))
  go_wp2_with fail
  go_ret
  exact ⟨rfl, B4.out.2⟩

theorem all20_walk (n c t : Int) (s v : ByteArray) (x : Int) (w : World) :
    Calls Try.prog 9 #[.agg #[.int .i64 n, .int .i64 c, .int .i64 t], .string s, .string v, .int .i64 x] w fun e w' => e = .returned (.bool true) ∧ Below w.heap.size w w' := by
  by_cases hs : s.size ≤ 1000
  · by_cases hv : v.size ≤ 1000
    · cases h : chkB n c t with
      | true => exact all20_true n c t x s v w hs hv h
      | false => exact all20_false n c t x s v w hs hv h
    · exact all20_far2 n c t x s v w hs (by omega)
  · exact all20_far1 n c t x s v w (by omega)

end Go.Proofs.Ytecgmmpafccbbaa
