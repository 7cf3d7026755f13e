/- The contracts of net's At. -/
import Derived.Test.YtgjpjningkckpaaNet
namespace Go.Proofs.Ytgjpjningkckpaa
open Go.RowKit
set_option linter.unusedVariables false
set_option linter.unusedSimpArgs false

/-- the message that is none -/
def noMsg : Value := .agg #[.int .i64 0, .int .i64 0, .int .i64 0, .int .i64 0, .slice none 0 0, .slice none 0 0, .int .i64 0]

set_option maxHeartbeats 400000 in
theorem at_no (w : World) (p m : Nat) (ids : List Int) (R : Option Nat) (h : NetAt w p m ids R) (i : Int) (hi : ¬ (0 ≤ i ∧ i < ids.length)) :
    Calls Try.prog 11 #[.pointer (some ⟨p, 0, none⟩), .int .i64 i] w fun e w' => e = .returned (.tuple #[noMsg, .bool false]) ∧ Below w.heap.size w w' := by
  have HN := Lib.hid h
  have HI := Lib.hid hi
  clear h hi
  go_enter Try.func11, Try.ntmps11
  go_wp2_with fail
  refine (has_no _ p m ids R (HN.out.keep (Below.one w _ (Nat.le_refl _))) i HI.out).mono ?_
  rintro e w1 ⟨rfl, rfl⟩
  go_wp2_with fail
  refine bodyPost_ret (v := .tuple #[noMsg, .bool false]) (by simp [results, Try.results11, go_sem, noMsg]) rfl ⟨rfl, Below.one w _ (Nat.le_refl _)⟩

/-- a message stored into seven cells of one block -/
def put7 (w : World) (B : Nat) (v0 v1 v2 v3 v4 v5 v6 : Value) : World := ((((((w.setCell ⟨B, 0, none⟩ v0).setCell ⟨B, 1, none⟩ v1).setCell ⟨B, 2, none⟩ v2).setCell ⟨B, 3, none⟩ v3).setCell ⟨B, 4, none⟩ v4).setCell ⟨B, 5, none⟩ v5).setCell ⟨B, 6, none⟩ v6
theorem put7_other (w : World) (B : Nat) (v0 v1 v2 v3 v4 v5 v6 : Value) (k : Nat) (h : k ≠ B) : (put7 w B v0 v1 v2 v3 v4 v5 v6).heap[k]? = w.heap[k]? := by
  unfold put7
  rw [Below.heap_setCell _ _ _ _ h, Below.heap_setCell _ _ _ _ h, Below.heap_setCell _ _ _ _ h, Below.heap_setCell _ _ _ _ h, Below.heap_setCell _ _ _ _ h, Below.heap_setCell _ _ _ _ h, Below.heap_setCell _ _ _ _ h]
theorem put7_below {w w1 : World} {C : Nat} (h : Below C w w1) (B : Nat) (hB : C ≤ B) (v0 v1 v2 v3 v4 v5 v6 : Value) : Below C w (put7 w1 B v0 v1 v2 v3 v4 v5 v6) := by
  unfold put7
  exact ((((((h.setCell (p := ⟨B, 0, none⟩) hB _).setCell (p := ⟨B, 1, none⟩) hB _).setCell (p := ⟨B, 2, none⟩) hB _).setCell (p := ⟨B, 3, none⟩) hB _).setCell (p := ⟨B, 4, none⟩) hB _).setCell (p := ⟨B, 5, none⟩) hB _).setCell (p := ⟨B, 6, none⟩) hB _
theorem put7_keys {w1 : World} {m : Nat} {v : Value} (h : KeysOk w1 m v) (B : Nat) (cs : Array Value) (hB : w1.heap[B]? = some (.cells cs 32 (0, 0))) (v0 v1 v2 v3 v4 v5 v6 : Value) : KeysOk (put7 w1 B v0 v1 v2 v3 v4 v5 v6) m v :=
  h.keep fun k cur fr hk => put7_other _ _ _ _ _ _ _ _ _ k (fun e => by subst e; rw [hB] at hk; simp at hk)

/-- a message of that number, and that there is one -/
def Given (w w' : World) (m : Nat) (id : Int) (e : Ending) : Prop := ∃ (k f t nu : Int) (a0 : Option Addr) (c0 : Nat) (kv : Value), e = .returned (.tuple #[.agg #[.int .i64 k, .int .i64 f, .int .i64 t, .int .i64 id, .slice a0 0 c0, kv, .int .i64 nu], .bool true]) ∧ KeysOk w' m kv ∧ Below w.heap.size w w'

/-- the cells of one message of a net -/
theorem NetAt.msg {w : World} {p m : Nat} {ids : List Int} {R : Option Nat} (h : NetAt w p m ids R) (i : Nat) (hi : i < ids.length) :
    ∃ (g cap : Nat) (k f t nu : Int) (a0 : Option Addr) (c0 : Nat) (kv : Value), w.cell? ⟨p, 0, none⟩ = some (.slice (some ⟨g, 0, none⟩) ids.length cap) ∧ R = some g ∧ KeysOk w m kv ∧
      (∀ j, j < 7 → w.cell? ⟨g, i * 7 + j, none⟩ = [Value.int .i64 k, .int .i64 f, .int .i64 t, .int .i64 ids[i], .slice a0 0 c0, kv, .int .i64 nu][j]?) := by
  obtain ⟨v, xs, hp, ho, hm, hR⟩ := h
  obtain ⟨g, cap, rfl, -, -⟩ := ho.form (by omega)
  obtain ⟨L, ⟨k, f, t, nu, a0, c0, kv, rfl, hk⟩, hx⟩ := hm.nth i hi
  refine ⟨g, cap, k, f, t, nu, a0, c0, kv, by unfold World.cell?; rw [hp]; rfl, hR.symm, hk, fun j hj => ?_⟩
  rw [ho.cellAt (i * 7 + j) (by omega), hx j hj]

set_option maxHeartbeats 1000000 in
theorem at_yes (w : World) (p m : Nat) (ids : List Int) (R : Option Nat) (h : NetAt w p m ids R) (i : Nat) (hi : i < ids.length) (id : Int) (hid : ids[i] = id) :
    Calls Try.prog 11 #[.pointer (some ⟨p, 0, none⟩), .int .i64 (i : Int)] w fun e w' => Given w w' m id e := by
  have HN := Lib.hid h
  obtain ⟨g, cap, k, f, t, nu, a0, c0, kv, hp, hR, hk, hc⟩ := h.msg i hi
  rw [hid] at hc
  have HP := Lib.hid hp
  have HK := Lib.hid hk
  have HC := Lib.hid hc
  have hil : (i : Int) < (ids.length : Int) := by omega
  have hrow := h.row g hR
  have hlp := h.lt
  have Hlp := Lib.hid hlp
  have Hrow := Lib.hid hrow.2
  have HH := Lib.hid (has_yes _ p m ids R (HN.out.keep (Below.one w (.cells #[.int .i64 0, .int .i64 0, .int .i64 0, .int .i64 0, .slice none 0 0, .slice none 0 0, .int .i64 0] 32) (Nat.le_refl _))) i hi)
  clear h hp hk hc hrow hid HN
  generalize ids.length = n at *
  go_enter Try.func11, Try.ntmps11
  go_wp2_with fail
  refine HH.out.mono ?_
  rintro e w1 ⟨rfl, rfl⟩
  have hp1 : (w.alloc (.cells #[.int .i64 0, .int .i64 0, .int .i64 0, .int .i64 0, .slice none 0 0, .slice none 0 0, .int .i64 0] 32)).cell? ⟨p, 0, none⟩ = some (.slice (some ⟨g, 0, none⟩) n cap) := ((bcell (Below.one w _ (Nat.le_refl _))).1 _ _ Hlp.out).trans HP.out
  have hW : ∀ j, j < 7 → (w.alloc (.cells #[.int .i64 0, .int .i64 0, .int .i64 0, .int .i64 0, .slice none 0 0, .slice none 0 0, .int .i64 0] 32)).cell? ⟨g, i * 7 + j, none⟩ = [Value.int .i64 k, .int .i64 f, .int .i64 t, .int .i64 id, .slice a0 0 c0, kv, .int .i64 nu][j]? := fun j hj => ((bcell (Below.one w _ (Nat.le_refl _))).1 _ _ Hrow.out).trans (HC.out j hj)
  have d0 : (w.alloc (.cells #[.int .i64 0, .int .i64 0, .int .i64 0, .int .i64 0, .slice none 0 0, .slice none 0 0, .int .i64 0] 32)).cell? ⟨g, i * 7, none⟩ = some (.int .i64 k) := hW 0 (by omega)
  have d1 : (w.alloc (.cells #[.int .i64 0, .int .i64 0, .int .i64 0, .int .i64 0, .slice none 0 0, .slice none 0 0, .int .i64 0] 32)).cell? ⟨g, i * 7 + 1, none⟩ = some (.int .i64 f) := hW 1 (by omega)
  have d2 : (w.alloc (.cells #[.int .i64 0, .int .i64 0, .int .i64 0, .int .i64 0, .slice none 0 0, .slice none 0 0, .int .i64 0] 32)).cell? ⟨g, i * 7 + 2, none⟩ = some (.int .i64 t) := hW 2 (by omega)
  have d3 : (w.alloc (.cells #[.int .i64 0, .int .i64 0, .int .i64 0, .int .i64 0, .slice none 0 0, .slice none 0 0, .int .i64 0] 32)).cell? ⟨g, i * 7 + 3, none⟩ = some (.int .i64 id) := hW 3 (by omega)
  have d4 : (w.alloc (.cells #[.int .i64 0, .int .i64 0, .int .i64 0, .int .i64 0, .slice none 0 0, .slice none 0 0, .int .i64 0] 32)).cell? ⟨g, i * 7 + 4, none⟩ = some (.slice a0 0 c0) := hW 4 (by omega)
  have d5 : (w.alloc (.cells #[.int .i64 0, .int .i64 0, .int .i64 0, .int .i64 0, .slice none 0 0, .slice none 0 0, .int .i64 0] 32)).cell? ⟨g, i * 7 + 5, none⟩ = some (kv) := hW 5 (by omega)
  have d6 : (w.alloc (.cells #[.int .i64 0, .int .i64 0, .int .i64 0, .int .i64 0, .slice none 0 0, .slice none 0 0, .int .i64 0] 32)).cell? ⟨g, i * 7 + 6, none⟩ = some (.int .i64 nu) := hW 6 (by omega)
  clear hW
  go_wp2_with fail
  refine (twin_any m k f t id nu a0 c0 kv _ (HK.out.below (Below.one w _ (Nat.le_refl _)))).mono ?_
  rintro e w1 ⟨b0, q0, kw, rfl, hkw, hb⟩
  have hz : w.heap.size < w1.heap.size := by have := hb.size; simp at this; omega
  have r0 : w1.cell? ⟨w.heap.size, 0, none⟩ = some (.int .i64 0) := by rw [(bcell hb).1 _ _ (by simp)]; simp
  have r1 : w1.cell? ⟨w.heap.size, 1, none⟩ = some (.int .i64 0) := by rw [(bcell hb).1 _ _ (by simp)]; simp
  have r2 : w1.cell? ⟨w.heap.size, 2, none⟩ = some (.int .i64 0) := by rw [(bcell hb).1 _ _ (by simp)]; simp
  have r3 : w1.cell? ⟨w.heap.size, 3, none⟩ = some (.int .i64 0) := by rw [(bcell hb).1 _ _ (by simp)]; simp
  have r4 : w1.cell? ⟨w.heap.size, 4, none⟩ = some (.slice none 0 0) := by rw [(bcell hb).1 _ _ (by simp)]; simp
  have r5 : w1.cell? ⟨w.heap.size, 5, none⟩ = some (.slice none 0 0) := by rw [(bcell hb).1 _ _ (by simp)]; simp
  have r6 : w1.cell? ⟨w.heap.size, 6, none⟩ = some (.int .i64 0) := by rw [(bcell hb).1 _ _ (by simp)]; simp
  have s0 : w1.frozen? ⟨w.heap.size, 0, none⟩ = false := by rw [(bcell hb).2 _ _ (by simp)]; simp
  have s1 : w1.frozen? ⟨w.heap.size, 1, none⟩ = false := by rw [(bcell hb).2 _ _ (by simp)]; simp
  have s2 : w1.frozen? ⟨w.heap.size, 2, none⟩ = false := by rw [(bcell hb).2 _ _ (by simp)]; simp
  have s3 : w1.frozen? ⟨w.heap.size, 3, none⟩ = false := by rw [(bcell hb).2 _ _ (by simp)]; simp
  have s4 : w1.frozen? ⟨w.heap.size, 4, none⟩ = false := by rw [(bcell hb).2 _ _ (by simp)]; simp
  have s5 : w1.frozen? ⟨w.heap.size, 5, none⟩ = false := by rw [(bcell hb).2 _ _ (by simp)]; simp
  have s6 : w1.frozen? ⟨w.heap.size, 6, none⟩ = false := by rw [(bcell hb).2 _ _ (by simp)]; simp
  obtain ⟨ka, kc, rfl, hkk⟩ := hkw
  have HKW : Hid (KeysOk w1 m (.slice ka m kc)) := ⟨ka, kc, rfl, hkk⟩
  have HB := Lib.hid ((Below.one w _ (Nat.le_refl _)).trans (hb.mono (by simp)))
  have HR := Lib.hid ((hb.block w.heap.size (by simp)).trans (MapKept.heap_alloc w _).1)
  clear hkk hb d0 d1 d2 d3 d4 d5 d6 hp1
  go_wp2_with fail
  refine bodyPost_ret (v := .tuple #[.agg #[.int .i64 k, .int .i64 f, .int .i64 t, .int .i64 id, .slice b0 0 q0, .slice ka m kc, .int .i64 nu], .bool true]) (by simp [results, Try.results11, go_sem, r0, r1, r2, r3, r4, r5, r6]) rfl ⟨k, f, t, nu, b0, q0, _, rfl, ?_, ?_⟩
  · exact put7_keys HKW.out w.heap.size _ HR.out _ _ _ _ _ _ _
  · exact put7_below HB.out w.heap.size (Nat.le_refl _) _ _ _ _ _ _ _

end Go.Proofs.Ytgjpjningkckpaa
