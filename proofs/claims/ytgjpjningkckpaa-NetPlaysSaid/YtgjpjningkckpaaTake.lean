/- The contracts of net's Take. -/
import Derived.Test.YtgjpjningkckpaaSend
namespace Go.Proofs.Ytgjpjningkckpaa
open Go.RowKit
set_option linter.unusedVariables false
set_option linter.unusedSimpArgs false

section
variable {P : Program}
/-- copy, whatever the element's size: into a row that is known whole, from cells that are known -/
theorem run_copy_sized (w : World) (dT sT ty elem size : Nat) (g o dLen dCap : Nat) (a : Addr) (sLen sCap : Nat) (cur : Array Value) (t : TypeId) (cs : List Value)
    (hu : P.underlying dT = some (.slice elem)) (hs : (P.info? elem).map (·.size) = some size) (hg : w.heap[g]? = some (.cells cur t (0, 0))) (hn : cs.length = Nat.min sLen dLen * size)
    (hsrc : ∀ j v, cs[j]? = some v → w.cell? (a.add j) = some v) (hfit : o + cs.length ≤ cur.size) (h1 : ∀ v ∈ cs, v.oneCell' = true) :
    (Builtin.copy_ #[dT, sT] ty #[.slice (some ⟨g, o, none⟩) dLen dCap, .slice (some a) sLen sCap]).run P w =
      .ok (goInt (Nat.min sLen dLen)) (w.setRow g (cur.toList.take o ++ cs ++ cur.toList.drop (o + cs.length)).toArray) := by
  have hl := run_loadCells_list (P := P) w a cs hsrc
  have hst := run_storeCells_at P g o t cs 0 cur w hg (by simpa using hfit) h1
  cases hq : P.info? elem with
  | none => simp [hq] at hs
  | some i =>
    have hi : i.size = size := by simpa [hq] using hs
    simp only [Nat.add_zero] at hst
    simp [Builtin.copy_, run_underlying hu, Builtin.lenOf, Builtin.firstCells, sizeOf, typeInfo, hq, hi, ← hn, hl, hst]
end

set_option maxHeartbeats 1000000 in
theorem take_no (w : World) (p m : Nat) (ids : List Int) (R : Option Nat) (h : NetAt w p m ids R) (i : Int) (hi : ¬ (0 ≤ i ∧ i < ids.length)) :
    Calls Try.prog 9 #[.pointer (some ⟨p, 0, none⟩), .int .i64 i] w fun e w' => e = .returned (.tuple #[noMsg, .bool false]) ∧ Below w.heap.size w w' := by
  have HA := Lib.hid (at_no _ p m ids R (h.keep (Below.one w (.cells #[.int .i64 0, .int .i64 0, .int .i64 0, .int .i64 0, .slice none 0 0, .slice none 0 0, .int .i64 0] 32) (Nat.le_refl _))) i hi)
  clear h hi
  go_enter Try.func9, Try.ntmps9
  go_wp2_with fail
  refine HA.out.mono ?_
  rintro e w1 ⟨rfl, hb⟩
  unfold noMsg
  have hz : w.heap.size < w1.heap.size := by have := hb.size; simp at this; omega
  have r0 : w1.cell? ⟨w.heap.size, 0, none⟩ = some (.int .i64 0) := by rw [(bcell hb).1 _ _ (by simp)]; simp
  have r1 : w1.cell? ⟨w.heap.size, 1, none⟩ = some (.int .i64 0) := by rw [(bcell hb).1 _ _ (by simp)]; simp
  have r2 : w1.cell? ⟨w.heap.size, 2, none⟩ = some (.int .i64 0) := by rw [(bcell hb).1 _ _ (by simp)]; simp
  have r3 : w1.cell? ⟨w.heap.size, 3, none⟩ = some (.int .i64 0) := by rw [(bcell hb).1 _ _ (by simp)]; simp
  have r4 : w1.cell? ⟨w.heap.size, 4, none⟩ = some (.slice none 0 0) := by rw [(bcell hb).1 _ _ (by simp)]; simp
  have r5 : w1.cell? ⟨w.heap.size, 5, none⟩ = some (.slice none 0 0) := by rw [(bcell hb).1 _ _ (by simp)]; simp
  have r6 : w1.cell? ⟨w.heap.size, 6, none⟩ = some (.int .i64 0) := by rw [(bcell hb).1 _ _ (by simp)]; simp
  have s0 : w1.frozen? ⟨w.heap.size, 0, none⟩ = false := by rw [(bcell hb).2 _ _ (by simp)]; simp
  have s1 : w1.frozen? ⟨w.heap.size, 1, none⟩ = false := by rw [(bcell hb).2 _ _ (by simp)]; simp
  have s2 : w1.frozen? ⟨w.heap.size, 2, none⟩ = false := by rw [(bcell hb).2 _ _ (by simp)]; simp
  have s3 : w1.frozen? ⟨w.heap.size, 3, none⟩ = false := by rw [(bcell hb).2 _ _ (by simp)]; simp
  have s4 : w1.frozen? ⟨w.heap.size, 4, none⟩ = false := by rw [(bcell hb).2 _ _ (by simp)]; simp
  have s5 : w1.frozen? ⟨w.heap.size, 5, none⟩ = false := by rw [(bcell hb).2 _ _ (by simp)]; simp
  have s6 : w1.frozen? ⟨w.heap.size, 6, none⟩ = false := by rw [(bcell hb).2 _ _ (by simp)]; simp
  have HB := Lib.hid ((Below.one w _ (Nat.le_refl _)).trans (hb.mono (by simp)))
  clear hb
  go_wp2_with fail
  refine bodyPost_ret (v := .tuple #[noMsg, .bool false]) (by simp [results, Try.results9, go_sem, noMsg, r0, r1, r2, r3, r4, r5, r6, hz]) rfl ⟨rfl, ?_⟩
  have h7 := put7_below HB.out w.heap.size (Nat.le_refl _) (.int .i64 0) (.int .i64 0) (.int .i64 0) (.int .i64 0) (.slice none 0 0) (.slice none 0 0) (.int .i64 0)
  exact h7.alloc h7.size _

theorem make42 (N : Nat) (hN : N ≤ 400) : ∃ Z : Array Value, Z.size = N * 7 ∧ ∀ W : World, (Instr.makeSlice 42 (.int .i64 (N : Int)) (.int .i64 (N : Int))).run Try.prog W = .ok (.slice (some ⟨W.heap.size, 0, none⟩) N N) (W.alloc (.cells Z 32)) := by
  obtain ⟨i0, hi, hz0, hz1, hz2⟩ := info_parts info32
  refine ⟨madeCells noMsg.cells (N * 7), by simp [madeCells], fun W => ?_⟩
  have := run_make (P := Try.prog) W 42 32 i0 noMsg Try.underlying42 hi hz0 .i64 .i64 N N (by omega) (by omega) (by rw [hz2]; omega) (by omega)
  rw [hz1] at this
  simpa using this

theorem slice42_l (b len cap l : Nat) (h : l ≤ len) : ∃ o : Nat, o ≤ l * 7 ∧ (cap ≠ l → o = l * 7) ∧ ∀ W : World, (Instr.slice 42 (.slice (some ⟨b, 0, none⟩) len cap) (some (.int .i64 (l : Int))) none none).run Try.prog W = .ok (.slice (some ⟨b, o, none⟩) (len - l) (cap - l)) W := by
  by_cases e : cap = l
  · refine ⟨0, by omega, fun h => absurd e h, fun W => ?_⟩
    have := run_slice_l (P := Try.prog) W 42 (some ⟨b, 0, none⟩) len cap Try.underlying42 .i64 l (by omega) (by omega)
    rw [this]
    show (Result.ok (sliced _ _ _ _ 7) W) = _
    simp [sliced, e]
  · refine ⟨l * 7, by omega, fun _ => rfl, fun W => ?_⟩
    have := run_slice_l (P := Try.prog) W 42 (some ⟨b, 0, none⟩) len cap Try.underlying42 .i64 l (by omega) (by omega)
    rw [this]
    show (Result.ok (sliced _ _ _ _ 7) W) = _
    have ea : (⟨b, 0, none⟩ : Addr).add (l * 7) = ⟨b, l * 7, none⟩ := by unfold Addr.add; split <;> simp_all
    simp [sliced, e, ea]

theorem slice42_h (b len cap h : Nat) (hh : h ≤ cap) (W : World) : (Instr.slice 42 (.slice (some ⟨b, 0, none⟩) len cap) none (some (.int .i64 (h : Int))) none).run Try.prog W = .ok (.slice (some ⟨b, 0, none⟩) h cap) W := by
  have := run_slice_h (P := Try.prog) W 42 (some ⟨b, 0, none⟩) len cap Try.underlying42 .i64 h (by omega) (by omega)
  rw [this]
  show (Result.ok (sliced _ _ _ _ 7) W) = _
  simp [sliced, Addr.add]

theorem MsgV.ones {w : World} {m : Nat} {id : Int} {L : List Value} (h : MsgV w m id L) : ∀ v ∈ L, v.oneCell' = true := by
  obtain ⟨k, f, t, nu, a0, c0, kv, rfl, a, c, rfl, -⟩ := h
  simp [Value.oneCell']
theorem Msgs.ones {w : World} {m : Nat} : ∀ {ids : List Int} {xs : List Value}, Msgs w m ids xs → ∀ v ∈ xs, v.oneCell' = true
  | [], xs, h => by rw [show xs = [] from h]; simp
  | id :: r, xs, h => by
    obtain ⟨L, ys, rfl, hl, hr⟩ := h
    intro v hv
    rcases List.mem_append.1 hv with h | h
    · exact hl.ones v h
    · exact Msgs.ones hr v h

theorem add_plain (b o j : Nat) : (⟨b, o, none⟩ : Addr).add j = ⟨b, o + j, none⟩ := by unfold Addr.add; split <;> simp_all

theorem copy_front (W : World) (L g N i cap : Nat) (Z : Array Value) (xs : List Value) (hL : W.heap.size = L) (hZ : Z.size = N * 7) (hi : i ≤ N) (hx : i * 7 ≤ xs.length) (hc : ∀ j, j < i * 7 → W.cell? ⟨g, j, none⟩ = xs[j]?) (hg : g < W.heap.size) (h1 : ∀ v ∈ xs, v.oneCell' = true) :
    ∃ Z1 : Array Value, Z1.toList = xs.take (i * 7) ++ Z.toList.drop (i * 7) ∧ (Builtin.copy_ #[42, 42] 3 #[.slice (some ⟨L, 0, none⟩) N N, .slice (some ⟨g, 0, none⟩) i cap]).run Try.prog (W.alloc (.cells Z 32)) = .ok (.int .i64 (i : Int)) (W.alloc (.cells Z1 32)) := by
  subst hL
  have hb := (bcell (Below.one W (.cells Z 32) (Nat.le_refl _))).1
  have := run_copy_sized (P := Try.prog) (W.alloc (.cells Z 32)) 42 42 3 32 7 W.heap.size 0 N N ⟨g, 0, none⟩ i cap Z 32 (xs.take (i * 7)) Try.underlying42 (by kernel_rfl) (MapKept.heap_alloc W _).1
    (by rw [List.length_take, Nat.min_eq_left hx]; exact congrArg (· * 7) (show i = i.min N from (Nat.min_eq_left hi).symm)) (fun j v hj => by
      rw [add_plain, Nat.zero_add, hb g j hg]
      rw [List.getElem?_take] at hj
      split at hj
      · rename_i hlt
        rw [hc j hlt, hj]
      · cases hj) (by rw [List.length_take, Nat.min_eq_left hx, hZ]; omega) (fun v hv => h1 v (List.mem_of_mem_take hv))
  refine ⟨(Z.toList.take 0 ++ xs.take (i * 7) ++ Z.toList.drop (0 + (xs.take (i * 7)).length)).toArray, ?_, this.trans ?_⟩
  · rw [List.length_take, Nat.min_eq_left hx, Nat.zero_add]; simp
  · have em : i.min N = i := Nat.min_eq_left hi
    rw [setRow_new, em]
    simp [goInt]

theorem copy_back (W : World) (L g N i o1 o2 c1 c2 : Nat) (Z1 : Array Value) (xs : List Value) (hL : W.heap.size = L) (hi : i ≤ N) (hx : xs.length = (N + 1) * 7) (hol : o1 ≤ N * 7) (ho1 : N ≠ i → o1 = i * 7) (ho2 : N ≠ i → o2 = (i + 1) * 7) (hZ1 : Z1.size = N * 7) (hZt : Z1.toList.take (i * 7) = xs.take (i * 7))
    (hc : ∀ j, j < (N + 1) * 7 → W.cell? ⟨g, j, none⟩ = xs[j]?) (hg : g < W.heap.size) (h1 : ∀ v ∈ xs, v.oneCell' = true) :
    ∃ Z2 : Array Value, Z2.toList = xs.take (i * 7) ++ xs.drop ((i + 1) * 7) ∧ (Builtin.copy_ #[42, 42] 3 #[.slice (some ⟨L, o1, none⟩) (N - i) c1, .slice (some ⟨g, o2, none⟩) (N - i) c2]).run Try.prog (W.alloc (.cells Z1 32)).drew = .ok (.int .i64 ((N - i : Nat) : Int)) (W.alloc (.cells Z2 32)).drew := by
  subst hL
  have hb := (bcell (Below.one W (.cells Z1 32) (Nat.le_refl _))).1
  by_cases e : N = i
  · subst e
    have := run_copy_sized (P := Try.prog) (W.alloc (.cells Z1 32)).drew 42 42 3 32 7 W.heap.size o1 0 c1 ⟨g, o2, none⟩ 0 c2 Z1 32 [] Try.underlying42 (by kernel_rfl) (MapKept.heap_alloc W _).1 (by simp) (fun j v hj => by simp at hj) (by simp; omega) (fun v hv => by simp at hv)
    refine ⟨Z1, ?_, ?_⟩
    · rw [List.drop_of_length_le (by omega), List.append_nil, ← hZt, List.take_of_length_le (by simp; omega)]
    · rw [Nat.sub_self, this]
      have e4 : (W.alloc (.cells Z1 32)).drew.setRow W.heap.size Z1 = (W.alloc (.cells Z1 32)).drew := by
        have := setRow_new W Z1 Z1 32
        show ((W.alloc (.cells Z1 32)).setRow W.heap.size Z1).drew = _
        rw [this]
      have e5 : (Z1.toList.take o1 ++ [] ++ Z1.toList.drop (o1 + ([] : List Value).length)).toArray = Z1 := by simp
      rw [e5, e4]
      rfl
  · have e1 := ho1 e
    have e2 := ho2 e
    subst e1 e2
    have hdl : (xs.drop ((i + 1) * 7)).length = (N - i) * 7 := by rw [List.length_drop, hx]; omega
    have := run_copy_sized (P := Try.prog) (W.alloc (.cells Z1 32)).drew 42 42 3 32 7 W.heap.size (i * 7) (N - i) c1 ⟨g, (i + 1) * 7, none⟩ (N - i) c2 Z1 32 (xs.drop ((i + 1) * 7)) Try.underlying42 (by kernel_rfl) (MapKept.heap_alloc W _).1
      (by rw [hdl]; simp) (fun j v hj => by
        have hjl : j < (xs.drop ((i + 1) * 7)).length := (List.getElem?_eq_some_iff.1 hj).1
        rw [hdl] at hjl
        rw [add_plain]
        have e3 : (W.alloc (.cells Z1 32)).drew.cell? ⟨g, (i + 1) * 7 + j, none⟩ = W.cell? ⟨g, (i + 1) * 7 + j, none⟩ := hb g _ hg
        rw [e3, hc _ (by omega), ← hj, List.getElem?_drop]) (by rw [hdl, hZ1]; omega) (fun v hv => h1 v (List.mem_of_mem_drop hv))
    refine ⟨(Z1.toList.take (i * 7) ++ xs.drop ((i + 1) * 7) ++ Z1.toList.drop (i * 7 + (xs.drop ((i + 1) * 7)).length)).toArray, ?_, this.trans ?_⟩
    · have e9 : Z1.toList.drop (i * 7 + (N - i) * 7) = [] := List.drop_of_length_le (by simp [hZ1]; omega)
      rw [hdl, hZt, e9]; simp
    · have e4 : ∀ cs, (W.alloc (.cells Z1 32)).drew.setRow W.heap.size cs = (W.alloc (.cells cs 32)).drew := fun cs => by
        have := setRow_new W Z1 cs 32
        show ((W.alloc (.cells Z1 32)).setRow W.heap.size cs).drew = _
        rw [this]
      rw [e4]
      simp [goInt]

/-- a message was taken -/
def Taken (w w' : World) (p m : Nat) (ids : List Int) (id : Int) (e : Ending) : Prop := ∃ (k f t nu : Int) (a0 : Option Addr) (c0 : Nat) (ka : Option Addr) (kc g' : Nat), e = .returned (.tuple #[.agg #[.int .i64 k, .int .i64 f, .int .i64 t, .int .i64 id, .slice a0 0 c0, .slice ka m kc, .int .i64 nu], .bool true]) ∧ KeysOk w' m (.slice ka m kc) ∧ NetAt w' p m ids (some g') ∧ w.heap.size ≤ g' ∧ Moved w w' p none

theorem taken_of {w w1 : World} {p m N i g cap L : Nat} {ids : List Int} {id k f t nu : Int} {a0 ka : Option Addr} {c0 kc : Nat} {xs : List Value} {Z2 : Array Value} {mb : Array Value}
    (hL : w1.heap.size + 1 = L) (hpw : p < w.heap.size) (hp : w.heap[p]? = some (.cells #[.slice (some ⟨g, 0, none⟩) (N + 1) cap] 44 (0, 0))) (ho : w.ownsRow (p + 1) 32 7 (.slice (some ⟨g, 0, none⟩) (N + 1) cap) (N + 1) xs) (hm : Msgs w m ids xs) (hn : ids.length = N + 1) (hi : i ≤ N) (hN : N < 400)
    (hb : Below w.heap.size w w1) (hrb : w1.heap[w.heap.size]? = some (.cells #[.int .i64 0, .int .i64 0, .int .i64 0, .int .i64 0, .slice none 0 0, .slice none 0 0, .int .i64 0] 32 (0, 0))) (hk : KeysOk w1 m (.slice ka m kc)) (hZ2 : Z2.toList = xs.take (i * 7) ++ xs.drop ((i + 1) * 7)) :
    Taken w (((put7 (w1.setCell ⟨p, 0, none⟩ (.slice (some ⟨L, 0, none⟩) N N)) w.heap.size (.int .i64 k) (.int .i64 f) (.int .i64 t) (.int .i64 id) (.slice a0 0 c0) (.slice ka m kc) (.int .i64 nu)).alloc (.cells mb 32)).alloc (.cells Z2 32)).drew p m (ids.take i ++ ids.drop (i + 1)) id (.returned (.tuple #[.agg #[.int .i64 k, .int .i64 f, .int .i64 t, .int .i64 id, .slice a0 0 c0, .slice ka m kc, .int .i64 nu], .bool true])) := by
  have hsz := hb.size
  have hszW : w.heap.size < w1.heap.size := lt_of_block hrb
  obtain ⟨P7, hP7⟩ : ∃ P7, P7 = put7 (w1.setCell ⟨p, 0, none⟩ (.slice (some ⟨L, 0, none⟩) N N)) w.heap.size (.int .i64 k) (.int .i64 f) (.int .i64 t) (.int .i64 id) (.slice a0 0 c0) (.slice ka m kc) (.int .i64 nu) := ⟨_, rfl⟩
  have h7s : P7.heap.size = w1.heap.size := by rw [hP7]; simp [put7, World.setCell]
  have h7o : P7.os = w1.os ∧ P7.tape = w1.tape ∧ P7.output = w1.output := by
    have hq := put7_below ((Below.refl 0 w1).setCell (p := ⟨p, 0, none⟩) (Nat.zero_le _) (.slice (some ⟨L, 0, none⟩) N N)) w.heap.size (Nat.zero_le _) (.int .i64 k) (.int .i64 f) (.int .i64 t) (.int .i64 id) (.slice a0 0 c0) (.slice ka m kc) (.int .i64 nu)
    rw [hP7]; exact ⟨hq.os, hq.tape, hq.output⟩
  have h7 : ∀ q, q ≠ w.heap.size → q ≠ p → P7.heap[q]? = w1.heap[q]? := fun q h1 h2 => by rw [hP7, put7_other _ _ _ _ _ _ _ _ _ q h1, Below.heap_setCell _ _ _ _ h2]
  have h7p : P7.heap[p]? = some (.cells #[.slice (some ⟨L, 0, none⟩) N N] 44 (0, 0)) := by
    rw [hP7, put7_other _ _ _ _ _ _ _ _ _ p (by omega)]
    exact field_set w1 p _ _ ((hb.block p hpw).trans hp)
  rw [← hP7]
  clear hP7
  have hal : ∀ q, q < w1.heap.size → (((P7.alloc (.cells mb 32)).alloc (.cells Z2 32)).drew).heap[q]? = P7.heap[q]? := fun q hq => by
    show ((P7.alloc (.cells mb 32)).alloc (.cells Z2 32)).heap[q]? = _
    rw [Below.heap_alloc _ _ _ (by simp; omega), Below.heap_alloc _ _ _ (by omega)]
  have hrow : (((P7.alloc (.cells mb 32)).alloc (.cells Z2 32)).drew).heap[L]? = some (.cells Z2 32 (0, 0)) := by
    have := (MapKept.heap_alloc (P7.alloc (.cells mb 32)) (.cells Z2 32)).1
    have e : (P7.alloc (.cells mb 32)).heap.size = L := by simp; omega
    rw [e] at this
    exact this
  have h9 : ∀ (q : Nat) (cur : Array Value) (fr : Nat × Nat), w1.heap[q]? = some (Obj.cells cur 9 fr) → (((P7.alloc (.cells mb 32)).alloc (.cells Z2 32)).drew).heap[q]? = w1.heap[q]? := fun q cur fr hq => by
    rw [hal q (lt_of_block hq)]
    refine h7 q (fun e => ?_) (fun e => ?_)
    · subst e; rw [hrb] at hq; simp at hq
    · subst e; rw [hb.block q hpw, hp] at hq; simp at hq
  have hZl : Z2.toList.length = N * 7 := by
    have h1 := ho.1
    rw [hZ2, List.length_append, List.length_take, List.length_drop, h1]
    omega
  have hZs : Z2.size = N * 7 := by simpa using hZl
  have hlen : (ids.take i ++ ids.drop (i + 1)).length = N := by
    rw [List.length_append, List.length_take, List.length_drop, hn]; omega
  refine ⟨k, f, t, nu, a0, c0, ka, kc, L, rfl, hk.keep h9, ⟨.slice (some ⟨L, 0, none⟩) N N, Z2.toList, (hal p (by omega)).trans h7p, ?_, ?_, rfl⟩, by omega, ?_⟩
  · rw [hlen]
    refine ⟨hZl, .inr ⟨L, N, Z2, rfl, by omega, hrow, Nat.le_refl _, by unfold maxLen; omega, hZs, ?_⟩⟩
    rw [List.take_of_length_le (by omega)]
  · rw [hZ2]
    have hm1 : Msgs w1 m ids xs := hm.keep fun q cur fr hq => hb.block q (lt_of_block hq)
    have hm2 := hm1.keep h9
    exact (hm2.split i (by omega)).1.append (hm2.split (i + 1) (by omega)).2
  · refine ⟨h7o.1.trans hb.os, h7o.2.1.trans hb.tape, h7o.2.2.trans hb.output, by simp; omega, fun q hq hqp _ => ?_⟩
    rw [hal q (by omega), h7 q (by omega) hqp, hb.block q hq]

set_option maxRecDepth 100000 in
set_option maxHeartbeats 4000000 in
theorem take_yes (w : World) (p m : Nat) (ids : List Int) (R : Option Nat) (h : NetAt w p m ids R) (N i : Nat) (hn : ids.length = N + 1) (hN : N < 400) (hi : i ≤ N) (id : Int) (hid : ids[i]'(by omega) = id) :
    Calls Try.prog 9 #[.pointer (some ⟨p, 0, none⟩), .int .i64 (i : Int)] w fun e w' => Taken w w' p m (ids.take i ++ ids.drop (i + 1)) id e := by
  have HA := Lib.hid (at_yes _ p m ids R (h.keep (Below.one w (.cells #[.int .i64 0, .int .i64 0, .int .i64 0, .int .i64 0, .slice none 0 0, .slice none 0 0, .int .i64 0] 32) (Nat.le_refl _))) i (by omega) id hid)
  obtain ⟨a, cap, xs, hpb, ho, hm, hR⟩ := h.form
  rw [hn] at hpb ho hR
  obtain ⟨g, cap', hv, -, hgl⟩ := ho.form (by omega)
  simp only [Value.slice.injEq] at hv
  obtain ⟨rfl, -, rfl⟩ := hv
  have hcap : N + 1 ≤ cap := by
    rcases ho.2 with ⟨h0, _⟩ | ⟨g', cap', cur, hv, _, _, h1, _⟩
    · simp at h0
    · simp only [Value.slice.injEq] at hv
      omega
  have hlt := h.lt
  have HPB := Lib.hid hpb
  have HO := Lib.hid ho
  have HM := Lib.hid hm
  have HR := Lib.hid hR
  have HLT := Lib.hid hlt
  have HN := Lib.hid hn
  obtain ⟨Z, hZ, hmk⟩ := make42 N (by omega)
  clear h hpb ho hm hR hid
  clear hn
  go_enter Try.func9, Try.ntmps9
  go_wp2_with fail
  refine HA.out.mono ?_
  rintro e w1 ⟨k, f, t, nu, a0, c0, kv, rfl, ⟨ka, kc, rfl, hkk⟩, hb⟩
  have hz : w.heap.size < w1.heap.size := by have := hb.size; simp at this; omega
  have r0 : w1.cell? ⟨w.heap.size, 0, none⟩ = some (.int .i64 0) := by rw [(bcell hb).1 _ _ (by simp)]; simp
  have r1 : w1.cell? ⟨w.heap.size, 1, none⟩ = some (.int .i64 0) := by rw [(bcell hb).1 _ _ (by simp)]; simp
  have r2 : w1.cell? ⟨w.heap.size, 2, none⟩ = some (.int .i64 0) := by rw [(bcell hb).1 _ _ (by simp)]; simp
  have r3 : w1.cell? ⟨w.heap.size, 3, none⟩ = some (.int .i64 0) := by rw [(bcell hb).1 _ _ (by simp)]; simp
  have r4 : w1.cell? ⟨w.heap.size, 4, none⟩ = some (.slice none 0 0) := by rw [(bcell hb).1 _ _ (by simp)]; simp
  have r5 : w1.cell? ⟨w.heap.size, 5, none⟩ = some (.slice none 0 0) := by rw [(bcell hb).1 _ _ (by simp)]; simp
  have r6 : w1.cell? ⟨w.heap.size, 6, none⟩ = some (.int .i64 0) := by rw [(bcell hb).1 _ _ (by simp)]; simp
  have s0 : w1.frozen? ⟨w.heap.size, 0, none⟩ = false := by rw [(bcell hb).2 _ _ (by simp)]; simp
  have s1 : w1.frozen? ⟨w.heap.size, 1, none⟩ = false := by rw [(bcell hb).2 _ _ (by simp)]; simp
  have s2 : w1.frozen? ⟨w.heap.size, 2, none⟩ = false := by rw [(bcell hb).2 _ _ (by simp)]; simp
  have s3 : w1.frozen? ⟨w.heap.size, 3, none⟩ = false := by rw [(bcell hb).2 _ _ (by simp)]; simp
  have s4 : w1.frozen? ⟨w.heap.size, 4, none⟩ = false := by rw [(bcell hb).2 _ _ (by simp)]; simp
  have s5 : w1.frozen? ⟨w.heap.size, 5, none⟩ = false := by rw [(bcell hb).2 _ _ (by simp)]; simp
  have s6 : w1.frozen? ⟨w.heap.size, 6, none⟩ = false := by rw [(bcell hb).2 _ _ (by simp)]; simp
  have HB := Lib.hid ((Below.one w _ (Nat.le_refl _)).trans (hb.mono (by simp)))
  have HRB := Lib.hid ((hb.block w.heap.size (by simp)).trans (MapKept.heap_alloc w _).1)
  have HKW : Hid (KeysOk w1 m (.slice ka m kc)) := ⟨ka, kc, rfl, hkk⟩
  have hp1 : w1.cell? ⟨p, 0, none⟩ = some (.slice (some ⟨g, 0, none⟩) (N + 1) cap) := by
    unfold World.cell?; rw [HB.out.block p hlt, HPB.out]; rfl
  have hf1 : w1.frozen? ⟨p, 0, none⟩ = false := by
    unfold World.frozen?; rw [HB.out.block p hlt, HPB.out]; rfl
  have hpz : p < w1.heap.size := by omega
  have hpB : p ≠ w.heap.size := by omega
  have hsh := fun W => slice42_h g (N + 1) cap i (by omega) W
  clear hb hkk
  have hgW : g < (w1.alloc (.cells #[.int .i64 k, .int .i64 f, .int .i64 t, .int .i64 id, .slice a0 0 c0, .slice ka m kc, .int .i64 nu] 32)).heap.size := by simp; omega
  have hcW : ∀ j, j < (N + 1) * 7 → (w1.alloc (.cells #[.int .i64 k, .int .i64 f, .int .i64 t, .int .i64 id, .slice a0 0 c0, .slice ka m kc, .int .i64 nu] 32)).cell? ⟨g, j, none⟩ = xs[j]? := fun j hj => by
    rw [(bcell (Below.one w1 _ (Nat.le_refl _))).1 g j (by omega), (bcell HB.out).1 g j hgl]
    exact HO.out.cellAt j hj
  obtain ⟨Z1, hZ1, hcp1⟩ := copy_front _ (w1.heap.size + 1) g N i cap Z xs (by simp) hZ hi (by rw [HO.out.1]; omega) (fun j hj => hcW j (by omega)) hgW HM.out.ones
  obtain ⟨o1, hol, ho1, hsl1⟩ := slice42_l (w1.heap.size + 1) N N i hi
  obtain ⟨o2, -, ho2, hsl2⟩ := slice42_l g (N + 1) cap (i + 1) (by omega)
  have hZ1s : Z1.size = N * 7 := by
    have := congrArg List.length hZ1
    rw [List.length_append, List.length_take, List.length_drop, HO.out.1] at this
    simp at this
    omega
  have hZ1t : Z1.toList.take (i * 7) = xs.take (i * 7) := by
    rw [hZ1, List.take_append_of_le_length (by rw [List.length_take, HO.out.1]; omega), List.take_take, Nat.min_self]
  obtain ⟨Z2, hZ2, hcp2⟩ := copy_back _ (w1.heap.size + 1) g N i o1 o2 (N - i) (cap - (i + 1)) Z1 xs (by simp) hi HO.out.1 (by omega) ho1 (fun e => ho2 (by omega)) hZ1s hZ1t hcW hgW HM.out.ones
  have HZ2 := Lib.hid hZ2
  have HCP2 := Lib.hid hcp2
  have HSL1 := Lib.hid hsl1
  have HSL2 := Lib.hid hsl2
  clear hcW hgW hZ1 hZ1s hZ1t hol ho1 ho2 hZ2 hcp2 hsl1 hsl2
  go_wp2_with fail
  have hsl1 : ∀ W, (Instr.slice 42 (.slice (some ⟨w1.heap.size + 1, 0, none⟩) N N) (some (.int .i64 (i : Int))) none none).run Try.prog W = .ok (.slice (some ⟨w1.heap.size + 1, o1, none⟩) (N - i) (N - i)) W := HSL1.out
  have hsl2 : ∀ W, (Instr.slice 42 (.slice (some ⟨g, 0, none⟩) (N + 1) cap) (some (.int .i64 ((i : Int) + 1))) none none).run Try.prog W = .ok (.slice (some ⟨g, o2, none⟩) (N - i) (cap - (i + 1))) W := fun W => by
    have := HSL2.out W
    rw [show N + 1 - (i + 1) = N - i by omega] at this
    exact this
  have hcp2 := HCP2.out
  have hwr : IntKind.i64.wrap ((i : Int) + 1) = (i : Int) + 1 := IntWalk.i64_in _ (by omega)
  clear hcp1 hsh hmk
  go_region
  go_wp2_with fail
  refine bodyPost_ret (v := .tuple #[.agg #[.int .i64 k, .int .i64 f, .int .i64 t, .int .i64 id, .slice a0 0 c0, .slice ka m kc, .int .i64 nu], .bool true]) ?_ rfl ?_
  · simp [results, Try.results9, go_sem, r0, r1, r2, r3, r4, r5, r6, hz, hpB]
  · exact taken_of rfl HLT.out HPB.out HO.out HM.out HN.out hi hN HB.out HRB.out HKW.out HZ2.out

end Go.Proofs.Ytgjpjningkckpaa
