/- The contracts of ring.Pair, ring.Back, ring.Owns, ring.Owners. -/
import Derived.Test.YtecgmmpafccbbaaRing
namespace Go.Proofs.Ytecgmmpafccbbaa
open Go.RowKit
set_option linter.unusedVariables false
set_option linter.unusedSimpArgs false

theorem ret_ib {k : IntKind} {a a' : Int} {b b' : Bool} (h : a = a') (h2 : b = b') : Ending.returned (.tuple #[.int k a, .bool b]) = .returned (.tuple #[.int k a', .bool b']) := by rw [h, h2]

theorem bcell {W w1 : World} (hb : Below W.heap.size W w1) : (∀ b o, b < W.heap.size → w1.cell? ⟨b, o, none⟩ = W.cell? ⟨b, o, none⟩) ∧ (∀ b o, b < W.heap.size → w1.frozen? ⟨b, o, none⟩ = W.frozen? ⟨b, o, none⟩) :=
  ⟨fun b o h => hb.cell (p := ⟨b, o, none⟩) h, fun b o h => hb.frozen (p := ⟨b, o, none⟩) h⟩

/-- is a node an owner, the first owner being f? -/
def pairB (n c f x : Int) : Bool := decide (0 ≤ x) && decide (x < n) && decide ((x - f) % n < c)
/-- the node that is paired with it -/
def pairV (n c f g x : Int) : Int := if pairB n c f x then own n c g ((x - f) % n) else 0

theorem pair_hit (n c f g x : Int) (k : Nat) (hn : 0 < n) (hc : c ≤ n) (hf0 : 0 ≤ f) (hf1 : f < n) (hk : (k : Int) < c) (h : own n c f k = x) : pairB n c f x = true ∧ pairV n c f g x = own n c g k := by
  have e : own n c f k = (f + k) % n := if_pos hk
  rw [e] at h
  have h0 := Int.emod_nonneg (f + k) (show n ≠ 0 by omega)
  have h1 := Int.emod_lt_of_pos (f + k) hn
  have hd : (x - f) % n = k := by
    rw [← h]
    rw [Int.emod_sub_emod]
    rw [show f + (k : Int) - f = k by omega]
    exact Int.emod_eq_of_lt (by omega) (by omega)
  have hb : pairB n c f x = true := by
    unfold pairB
    rw [hd]
    simp
    omega
  exact ⟨hb, by unfold pairV; rw [if_pos hb, hd]⟩

theorem pair_miss (n c f g x : Int) (hn : 0 < n) (hc : c ≤ n) (h : ∀ k : Nat, (k : Int) < c → own n c f k ≠ x) : pairB n c f x = false ∧ pairV n c f g x = 0 := by
  have hb : pairB n c f x = false := by
    cases hb : pairB n c f x with
    | false => rfl
    | true =>
      exfalso
      unfold pairB at hb
      simp at hb
      obtain ⟨⟨h0, h1⟩, h2⟩ := hb
      have d0 := Int.emod_nonneg (x - f) (show n ≠ 0 by omega)
      obtain ⟨k, hk⟩ := Int.eq_ofNat_of_zero_le d0
      refine h k (by omega) ?_
      unfold own
      rw [if_pos (by omega), ← hk]
      rw [Int.add_emod, Int.emod_emod, ← Int.add_emod]
      rw [show f + (x - f) = x by omega]
      exact Int.emod_eq_of_lt h0 h1
  exact ⟨hb, by unfold pairV; rw [hb]; rfl⟩

/-- the cells of a block of owners -/
theorem own_cells (n c f : Int) (k : Nat) (hk : k < 5) : (#[Value.int .i64 (own n c f 0), .int .i64 (own n c f 1), .int .i64 (own n c f 2), .int .i64 (own n c f 3), .int .i64 (own n c f 4)] : Array Value)[k]? = some (.int .i64 (own n c f k)) := by
  match k, hk with
  | 0, _ => rfl
  | 1, _ => rfl
  | 2, _ => rfl
  | 3, _ => rfl
  | 4, _ => rfl

set_option maxHeartbeats 1000000 in
theorem pair_yes (n c t x : Int) (s v : ByteArray) (w : World) (hs : s.size ≤ 1000) (hv : v.size ≤ 1000) (h : chkB n c t = true) :
    Calls Try.prog 27 #[.agg #[.int .i64 n, .int .i64 c, .int .i64 t], .string s, .string v, .int .i64 x] w fun e w' => e = .returned (.tuple #[.int .i64 (pairV n c (tokI s % n) (tokI v % n) x), .bool (pairB n c (tokI s % n) x)]) ∧ Below w.heap.size w w' := by
  obtain ⟨n1, n2, c1, c2, -, -⟩ := chkB_of n c t h
  have hR1 := Lib.hid (fun w => round_yes n c t s w hs h)
  have hR2 := Lib.hid (fun w => round_yes n c t v w hv h)
  have f0 : 0 ≤ tokI s % n := Int.emod_nonneg _ (by omega)
  have f1 : tokI s % n < n := Int.emod_lt_of_pos _ (by omega)
  have H := Lib.hid h
  clear h
  generalize tokI s % n = f at *
  generalize tokI v % n = g at *
  go_enter Try.func27, Try.ntmps27
  go_wp2_with fail
  refine (hR1.out _).mono ?_
  rintro e w1 ⟨rfl, hb1⟩
  have hz1 : w.heap.size < w1.heap.size := by have := hb1.size; simp at this; omega
  have ha0 : w1.cell? ⟨w.heap.size, 0, none⟩ = some (.int .i64 n) := by rw [(bcell hb1).1 _ _ (by simp)]; simp
  have ha1 : w1.cell? ⟨w.heap.size, 1, none⟩ = some (.int .i64 c) := by rw [(bcell hb1).1 _ _ (by simp)]; simp
  have ha2 : w1.cell? ⟨w.heap.size, 2, none⟩ = some (.int .i64 t) := by rw [(bcell hb1).1 _ _ (by simp)]; simp
  unfold ownV
  go_wp2_with fail
  refine (hR2.out _).mono ?_
  rintro e w2 ⟨rfl, hb2⟩
  have hz2 : w1.heap.size < w2.heap.size := by have := hb2.size; simp at this; omega
  have hF : ∀ k : Nat, k < 5 → w2.cell? ⟨w1.heap.size, k, none⟩ = some (.int .i64 (own n c f k)) := fun k hk => by
    rw [(bcell hb2).1 _ _ (by simp)]
    have := own_cells n c f k hk
    unfold World.cell?
    rw [show (w1.alloc _).heap[w1.heap.size]? = some (.cells _ 52) from (MapKept.heap_alloc w1 _).1]
    exact this
  have HB : Hid (Below w.heap.size w w2) := ((Below.refl _ _).alloc (Nat.le_refl _) _).trans ((hb1.mono (by simp)).trans (((Below.refl _ _).alloc (by omega) _).trans (hb2.mono (by simp; omega))))
  have hFH := Lib.hid hF
  clear hF ha0 ha1 ha2 hb1 hb2 hR1 hR2
  unfold ownV
  go_wp2_with fail
  have hG2 : ∀ k : Nat, k < 5 → (w2.alloc (.cells #[.int .i64 (own n c g 0), .int .i64 (own n c g 1), .int .i64 (own n c g 2), .int .i64 (own n c g 3), .int .i64 (own n c g 4)] 52)).cell? ⟨w2.heap.size, k, none⟩ = some (.int .i64 (own n c g k)) := fun k hk => by
    have := own_cells n c g k hk
    unfold World.cell?
    rw [show (w2.alloc _).heap[w2.heap.size]? = some (.cells _ 52) from (MapKept.heap_alloc w2 _).1]
    exact this
  have hF2 : ∀ k : Nat, k < 5 → (w2.alloc (.cells #[.int .i64 (own n c g 0), .int .i64 (own n c g 1), .int .i64 (own n c g 2), .int .i64 (own n c g 3), .int .i64 (own n c g 4)] 52)).cell? ⟨w1.heap.size, k, none⟩ = some (.int .i64 (own n c f k)) := fun k hk => by rw [World.cell?_alloc_some _ _ _ (by rw [hFH.out k hk]; rfl), hFH.out k hk]
  have hB2 : Below w.heap.size w (w2.alloc (.cells #[.int .i64 (own n c g 0), .int .i64 (own n c g 1), .int .i64 (own n c g 2), .int .i64 (own n c g 3), .int .i64 (own n c g 4)] 52)) := HB.out.alloc HB.out.size _
  have HG := Lib.hid hG2
  have HF := Lib.hid hF2
  have HB2 := Lib.hid hB2
  clear hG2 hF2 hB2 hFH HB
  generalize w2.alloc _ = W at *
  go_loop [28] (fun i => ∃ k : Nat, (k : Int) ≤ c ∧ i = .int .i64 k ∧ ∀ j : Nat, j < k → own n c f j ≠ x) (fun i => (c - intOf i).toNat)
  case atStart => exact ⟨0, by omega, rfl, fun j hj => absurd hj (Nat.not_lt_zero _)⟩
  case round =>
    obtain ⟨k, hk, rfl, hno⟩ := hrel
    have HN := Lib.hid hno
    clear hno
    by_cases hlt : (k : Int) < c
    · have hcg := HG.out k (by omega)
      have hcf := HF.out k (by omega)
      by_cases hx : own n c f k = x
      · obtain ⟨e1, e2⟩ := pair_hit n c f g x k (by omega) c2 f0 f1 hlt hx
        have hx' : (own n c f k == x) = true := by simpa using hx
        have E1 := Lib.hid e1
        have E2 := Lib.hid e2
        clear e1 e2 hx
        go_wp2
        go_ret2
        exact ⟨ret_ib E2.out.symm E1.out.symm, HB2.out⟩
      · have hx' : (own n c f k == x) = false := by simpa using hx
        have HX := Lib.hid hx
        clear hx
        go_wp2
        go_round
        case rel => exact ⟨k + 1, by omega, by go_num, fun j hj => by
          by_cases e : j = k
          · rw [e]; exact HX.out
          · exact HN.out j (by omega)⟩
        case measure => simp [intOf]; omega
    · obtain ⟨e1, e2⟩ := pair_miss n c f g x (by omega) c2 (fun j hj => HN.out j (by omega))
      have E1 := Lib.hid e1
      have E2 := Lib.hid e2
      clear e1 e2
      go_wp2
      go_ret2
      exact ⟨ret_ib E2.out.symm E1.out.symm, HB2.out⟩

set_option maxHeartbeats 1000000 in
theorem pair_no (n c t x : Int) (s v : ByteArray) (w : World) (hs : s.size ≤ 1000) (hv : v.size ≤ 1000) (h : chkB n c t = false) :
    Calls Try.prog 27 #[.agg #[.int .i64 n, .int .i64 c, .int .i64 t], .string s, .string v, .int .i64 x] w fun e w' => e = .returned (.tuple #[.int .i64 0, .bool false]) ∧ Below w.heap.size w w' := by
  have hR1 := Lib.hid (fun w => round_no n c t s w hs h)
  have hR2 := Lib.hid (fun w => round_no n c t v w hv h)
  clear h
  go_enter Try.func27, Try.ntmps27
  go_wp2_with fail
  refine (hR1.out _).mono ?_
  rintro e w1 ⟨rfl, hb1⟩
  have hz1 : w.heap.size < w1.heap.size := by have := hb1.size; simp at this; omega
  have ha0 : w1.cell? ⟨w.heap.size, 0, none⟩ = some (.int .i64 n) := by rw [(bcell hb1).1 _ _ (by simp)]; simp
  have ha1 : w1.cell? ⟨w.heap.size, 1, none⟩ = some (.int .i64 c) := by rw [(bcell hb1).1 _ _ (by simp)]; simp
  have ha2 : w1.cell? ⟨w.heap.size, 2, none⟩ = some (.int .i64 t) := by rw [(bcell hb1).1 _ _ (by simp)]; simp
  go_wp2_with fail
  refine (hR2.out _).mono ?_
  rintro e w2 ⟨rfl, hb2⟩
  have HB : Below w.heap.size w w2 := ((Below.refl _ _).alloc (Nat.le_refl _) _).trans ((hb1.mono (by simp)).trans (((Below.refl _ _).alloc (by omega) _).trans (hb2.mono (by simp; omega))))
  clear ha0 ha1 ha2 hb1 hb2 hR1 hR2
  go_wp2_with fail
  refine wp_loop_rounds 1 ?_
  rw [rounds_succ]; go_wp2
  go_ret2
  exact ⟨rfl, HB.alloc HB.size _⟩

/-- what Pair answers of any configuration -/
def pOk (n c t : Int) (s : ByteArray) (x : Int) : Bool := chkB n c t && pairB n c (tokI s % n) x
def pVal (n c t : Int) (s v : ByteArray) (x : Int) : Int := if chkB n c t then pairV n c (tokI s % n) (tokI v % n) x else 0

theorem pair_any (n c t x : Int) (s v : ByteArray) (w : World) (hs : s.size ≤ 1000) (hv : v.size ≤ 1000) :
    Calls Try.prog 27 #[.agg #[.int .i64 n, .int .i64 c, .int .i64 t], .string s, .string v, .int .i64 x] w fun e w' => e = .returned (.tuple #[.int .i64 (pVal n c t s v x), .bool (pOk n c t s x)]) ∧ Below w.heap.size w w' := by
  unfold pVal pOk
  cases h : chkB n c t with
  | true => simpa using pair_yes n c t x s v w hs hv h
  | false => simpa using pair_no n c t x s v w hs hv h

set_option maxHeartbeats 400000 in
theorem back_any (n c t x : Int) (s v : ByteArray) (w : World) (hs : s.size ≤ 1000) (hv : v.size ≤ 1000) :
    Calls Try.prog 28 #[.agg #[.int .i64 n, .int .i64 c, .int .i64 t], .string s, .string v, .int .i64 x] w fun e w' => e = .returned (.tuple #[.int .i64 (pVal n c t v s x), .bool (pOk n c t v x)]) ∧ Below w.heap.size w w' := by
  go_enter Try.func28, Try.ntmps28
  go_wp2_with fail
  refine (pair_any _ _ _ _ _ _ _ hv hs).mono ?_
  rintro e w1 ⟨rfl, hb⟩
  go_wp2_with fail
  go_ret2
  exact ⟨rfl, ((Below.refl _ _).alloc (Nat.le_refl _) _).trans (hb.mono (by simp))⟩

set_option maxHeartbeats 400000 in
theorem owns_any (n c t x : Int) (s : ByteArray) (w : World) (hs : s.size ≤ 1000) :
    Calls Try.prog 24 #[.agg #[.int .i64 n, .int .i64 c, .int .i64 t], .string s, .int .i64 x] w fun e w' => e = .returned (.bool (pOk n c t s x)) ∧ Below w.heap.size w w' := by
  go_enter Try.func24, Try.ntmps24
  go_wp2_with fail
  refine (pair_any _ _ _ _ _ _ _ hs hs).mono ?_
  rintro e w1 ⟨rfl, hb⟩
  go_wp2_with fail
  go_ret
  exact ⟨rfl, ((Below.refl _ _).alloc (Nat.le_refl _) _).trans (hb.mono (by simp))⟩

set_option maxHeartbeats 400000 in
theorem owners_no (n c t : Int) (s : ByteArray) (w : World) (hs : s.size ≤ 1000) (h : chkB n c t = false) :
    Calls Try.prog 22 #[.agg #[.int .i64 n, .int .i64 c, .int .i64 t], .string s] w fun e w' => e = .returned (.slice none 0 0) ∧ Below w.heap.size w w' := by
  have hR1 := Lib.hid (fun w => round_no n c t s w hs h)
  clear h
  go_enter Try.func22, Try.ntmps22
  go_wp2_with fail
  refine (hR1.out _).mono ?_
  rintro e w1 ⟨rfl, hb⟩
  go_wp2_with fail
  go_ret
  have h1 := ((Below.refl w.heap.size w).alloc (Nat.le_refl _) (.cells #[.int .i64 n, .int .i64 c, .int .i64 t] 35)).trans (hb.mono (by simp))
  exact ⟨rfl, h1.alloc h1.size _⟩

/-- a slice of owners in memory of its own -/
def OwnersAt (w w' : World) (n c f : Int) (e : Ending) : Prop := ∃ b : Nat, e = .returned (.slice (some ⟨b, 0, none⟩) c.toNat 5) ∧ (∀ k : Nat, k < 5 → w'.cell? ⟨b, k, none⟩ = some (.int .i64 (own n c f k))) ∧ b < w'.heap.size ∧ w.heap.size ≤ b ∧ Below w.heap.size w w'

theorem run_array_h (b : Nat) (h : Int) (h0 : 0 ≤ h) (h5 : h ≤ 5) (W : World) :
    (Instr.sliceAt 52 (.pointer (some ⟨b, 0, none⟩)) none (some (.int .i64 h)) none).run Try.prog W = .ok (.slice (some ⟨b, 0, none⟩) h.toNat 5) W := by
  have e : Try.prog.arrayLen 52 = 5 := by kernel_rfl
  have := run_sliceAt_array_h (P := Try.prog) (t := 52) (a := ⟨b, 0, none⟩) (w := W) (by rw [e]; exact Try.underlying52) .i64 h h0 (by rw [e]; exact h5)
  rw [e] at this
  exact this

set_option maxHeartbeats 400000 in
theorem owners_yes (n c t : Int) (s : ByteArray) (w : World) (hs : s.size ≤ 1000) (h : chkB n c t = true) :
    Calls Try.prog 22 #[.agg #[.int .i64 n, .int .i64 c, .int .i64 t], .string s] w fun e w' => OwnersAt w w' n c (tokI s % n) e := by
  obtain ⟨n1, n2, c1, c2, -, -⟩ := chkB_of n c t h
  have hR1 := Lib.hid (fun w => round_yes n c t s w hs h)
  clear h
  generalize tokI s % n = f at *
  have hc0 : (c == 0) = false := by simp; omega
  go_enter Try.func22, Try.ntmps22
  go_wp2_with fail
  refine (hR1.out _).mono ?_
  rintro e w1 ⟨rfl, hb⟩
  unfold ownV
  have hsl := fun W => run_array_h w1.heap.size c (by omega) (by omega) W
  have h1 := ((Below.refl w.heap.size w).alloc (Nat.le_refl _) (.cells #[.int .i64 n, .int .i64 c, .int .i64 t] 35)).trans (hb.mono (by simp))
  have H1 := Lib.hid h1
  clear h1 hb
  go_wp2_with fail
  go_ret
  refine ⟨w1.heap.size, rfl, fun k hk => ?_, by simp, H1.out.size, H1.out.alloc H1.out.size _⟩
  have := own_cells n c f k hk
  unfold World.cell?
  rw [show (w1.alloc _).heap[w1.heap.size]? = some (.cells _ 52) from (MapKept.heap_alloc w1 _).1]
  exact this

end Go.Proofs.Ytecgmmpafccbbaa
