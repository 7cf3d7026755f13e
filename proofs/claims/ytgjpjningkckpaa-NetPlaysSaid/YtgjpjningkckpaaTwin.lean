/- The contracts of package net's New, twin, has, Len, and of Place. -/
import Derived.Test.YtgjpjningkckpaaRows
import Derived.WalkKit
import Derived.WalkSpells
import Derived.WalkLawsBesides
import Derived.Lib.Hide
import Derived.LoopN
namespace Go.Proofs.Ytgjpjningkckpaa
open Go.RowKit
set_option linter.unusedVariables false
set_option linter.unusedSimpArgs false

theorem ret_int {k : IntKind} {a b : Int} (h : a = b) : Ending.returned (.int k a) = .returned (.int k b) := by rw [h]

/-- any number as one from 0 to n - 1 -/
def placeI (v n : Int) : Int := v % n

theorem placeI_nonneg (v n : Int) (hn : 0 < n) : 0 ≤ placeI v n := Int.emod_nonneg v (by omega)
theorem placeI_lt (v n : Int) (hn : 0 < n) : placeI v n < n := Int.emod_lt_of_pos v hn
theorem placeI_pos (v n : Int) (hn : 0 < n) (h : 0 ≤ v.tmod n) : v.tmod n = placeI v n := by
  have e := Int.mul_tdiv_add_tmod v n
  have hl : v.tmod n < n := Int.tmod_lt_of_pos v hn
  unfold placeI
  conv => rhs; rw [← e]
  rw [Int.mul_add_emod_self_left, Int.emod_eq_of_lt h hl]
theorem placeI_neg (v n : Int) (hn : 0 < n) (h : v.tmod n < 0) : v.tmod n + n = placeI v n := by
  have e := Int.mul_tdiv_add_tmod v n
  have hl : -n < v.tmod n := Int.lt_tmod_of_pos v hn
  unfold placeI
  conv => rhs; rw [← e]
  rw [Int.mul_add_emod_self_left, ← Int.add_emod_right, Int.emod_eq_of_lt (by omega) (by omega)]

set_option maxHeartbeats 400000 in
theorem place_any (v n : Int) (w : World) (hn : 0 < n) (hn2 : n ≤ 4294967296) :
    Calls Try.prog 8 #[.int .i64 v, .int .i64 n] w fun e w' => e = .returned (.int .i64 (placeI v n)) ∧ w = w' := by
  have hne : (n == 0) = false := by simp; omega
  by_cases hs : 0 ≤ v.tmod n
  · have hp := Lib.hid (placeI_pos v n hn hs)
    go_enter Try.func8, Try.ntmps8
    go_wp2
    go_ret
    exact ⟨ret_int hp.out, rfl⟩
  · have hs' : v.tmod n < 0 := by omega
    have hp := Lib.hid (placeI_neg v n hn hs')
    have hl : -n < v.tmod n := Int.lt_tmod_of_pos v hn
    go_enter Try.func8, Try.ntmps8
    go_wp2
    go_ret
    exact ⟨ret_int hp.out, rfl⟩

theorem bcell {W w1 : World} (hb : Below W.heap.size W w1) : (∀ b o, b < W.heap.size → w1.cell? ⟨b, o, none⟩ = W.cell? ⟨b, o, none⟩) ∧ (∀ b o, b < W.heap.size → w1.frozen? ⟨b, o, none⟩ = W.frozen? ⟨b, o, none⟩) :=
  ⟨fun b o h => hb.cell (p := ⟨b, o, none⟩) h, fun b o h => hb.frozen (p := ⟨b, o, none⟩) h⟩
theorem Below.one {B : Nat} (w : World) (o : Obj) (h : B ≤ w.heap.size) : Below B w (w.alloc o) := (Below.refl _ _).alloc h _

theorem new_any (w : World) : Calls Try.prog 7 #[] w fun e w' => e = .returned (.pointer (some ⟨w.heap.size, 0, none⟩)) ∧ w.alloc (.cells #[.slice none 0 0] 44) = w' := by
  go_enter Try.func7, Try.ntmps7
  go_wp2
  go_ret
  exact ⟨rfl, rfl⟩

theorem make29 (w : World) : (Instr.makeSlice 29 (.int .i64 0) (.int .i64 0)).run Try.prog w = .ok (.slice (some ⟨w.heap.size, 0, none⟩) 0 0) (w.alloc (.cells #[] 65)) := by kernel_rfl
theorem make30_0 (w : World) : (Instr.makeSlice 30 (.int .i64 0) (.int .i64 0)).run Try.prog w = .ok (.slice (some ⟨w.heap.size, 0, none⟩) 0 0) (w.alloc (.cells #[] 9)) := by kernel_rfl
theorem make30_1 (w : World) : (Instr.makeSlice 30 (.int .i64 1) (.int .i64 1)).run Try.prog w = .ok (.slice (some ⟨w.heap.size, 0, none⟩) 1 1) (w.alloc (.cells #[.string ⟨#[]⟩] 9)) := by kernel_rfl

theorem copy29 (g c : Nat) (a : Option Addr) (w : World) : (Builtin.copy_ #[29, 29] 3 #[.slice (some ⟨g, 0, none⟩) 0 0, .slice a 0 c]).run Try.prog w = .ok (.int .i64 0) w := by
  cases a <;> kernel_rfl
theorem copy30_0 (g c : Nat) (a : Option Addr) (w : World) : (Builtin.copy_ #[30, 30] 3 #[.slice (some ⟨g, 0, none⟩) 0 0, .slice a 0 c]).run Try.prog w = .ok (.int .i64 0) w := by
  cases a <;> kernel_rfl

theorem setRow_new (W : World) (a b : Array Value) (t : TypeId) : (W.alloc (.cells a t)).setRow W.heap.size b = W.alloc (.cells b t) := by
  have hm : ∀ (h : Array Obj) (x : Obj) (f : Obj → Obj), (h.push x).modify h.size f = h.push (f x) := by
    intro h x f
    apply Array.ext
    · simp
    · intro i h1 h2
      simp only [Array.getElem_modify, Array.getElem_push]
      by_cases e : h.size = i
      · subst e; simp
      · have hi : i < h.size := by simp at h1; omega
        simp [e, hi]
  show ({ W.alloc (.cells a t) with heap := (W.heap.push (.cells a t)).modify W.heap.size _ } : World) = _
  rw [hm]
  rfl

theorem copy30_1 (W : World) (c kb ko : Nat) (s : ByteArray) (h : W.cell? ⟨kb, ko, none⟩ = some (.string s)) :
    (Builtin.copy_ #[30, 30] 3 #[.slice (some ⟨W.heap.size, 0, none⟩) 1 1, .slice (some ⟨kb, ko, none⟩) 1 c]).run Try.prog (W.alloc (.cells #[.string ⟨#[]⟩] 9)) = .ok (.int .i64 1) (W.alloc (.cells #[.string s] 9)) := by
  have hc : (W.alloc (.cells #[.string ⟨#[]⟩] 9)).cell? ⟨kb, ko, none⟩ = some (.string s) := by
    rw [← h]
    exact (Below.one W _ (Nat.le_refl _)).cell (World.block_lt_of_cell? W _ h)
  have := run_copy_row (P := Try.prog) (W.alloc (.cells #[.string ⟨#[]⟩] 9)) 30 30 3 9 W.heap.size 0 1 1 ⟨kb, ko, none⟩ 1 c #[.string ⟨#[]⟩] 9 [.string s] Try.underlying30 (by kernel_rfl) (MapKept.heap_alloc W _).1 rfl
    (fun j v hj => by
      match j, hj with
      | 0, hj => simp at hj; subst hj; simpa [Addr.add] using hc) (by simp) (by simp [Value.oneCell'])
  rw [this]
  simp [setRow_new, goInt]

/-- a message's list of keys: so many, where they may be read -/
def KeysOk (w : World) (m : Nat) (v : Value) : Prop := ∃ a cap, v = .slice a m cap ∧ (m = 0 ∨ (m = 1 ∧ ∃ (kb ko : Nat) (s : ByteArray) (cur : Array Value) (fr : Nat × Nat), a = some ⟨kb, ko, none⟩ ∧ w.heap[kb]? = some (.cells cur 9 fr) ∧ cur[ko]? = some (.string s)))
theorem lt_of_block {w : World} {k : Nat} {o : Obj} (h : w.heap[k]? = some o) : k < w.heap.size := (Array.getElem?_eq_some_iff.1 h).1
theorem KeysOk.keep {w w' : World} {m : Nat} {v : Value} (h : KeysOk w m v) (hb : ∀ (k : Nat) (cur : Array Value) (fr : Nat × Nat), w.heap[k]? = some (Obj.cells cur 9 fr) → w'.heap[k]? = w.heap[k]?) : KeysOk w' m v := by
  obtain ⟨a, cap, rfl, h | ⟨h1, kb, ko, s, cur, fr, rfl, hc, hs⟩⟩ := h
  · exact ⟨a, cap, rfl, .inl h⟩
  · exact ⟨_, cap, rfl, .inr ⟨h1, kb, ko, s, cur, fr, rfl, (hb kb cur fr hc).trans hc, hs⟩⟩
theorem KeysOk.below {w w' : World} {m : Nat} {v : Value} (h : KeysOk w m v) (hb : Below w.heap.size w w') : KeysOk w' m v :=
  KeysOk.keep h fun k _ _ hk => hb.block k (lt_of_block hk)

/-- a message that was copied: its numbers are as they were, its lists lie in memory of their own -/
def Twinned (w w' : World) (m : Nat) (k f t i nu : Int) (e : Ending) : Prop := ∃ (a0 : Option Addr) (c0 : Nat) (kv : Value), e = .returned (.agg #[.int .i64 k, .int .i64 f, .int .i64 t, .int .i64 i, .slice a0 0 c0, kv, .int .i64 nu]) ∧ KeysOk w' m kv ∧ Below w.heap.size w w'

set_option maxHeartbeats 1000000 in
theorem twin0 (k f t i nu : Int) (a0 a1 : Option Addr) (c0 c1 : Nat) (w : World) :
    Calls Try.prog 16 #[.agg #[.int .i64 k, .int .i64 f, .int .i64 t, .int .i64 i, .slice a0 0 c0, .slice a1 0 c1, .int .i64 nu]] w fun e w' => Twinned w w' 0 k f t i nu e := by
  have h1 := make29
  have h2 := make30_0
  have h3 := copy29
  have h4 := copy30_0
  go_enter Try.func16, Try.ntmps16
  go_wp2
  refine bodyPost_ret (v := .agg #[.int .i64 k, .int .i64 f, .int .i64 t, .int .i64 i, .slice (some ⟨w.heap.size + 1 + 1, 0, none⟩) 0 0, .slice (some ⟨w.heap.size + 1 + 1 + 1, 0, none⟩) 0 0, .int .i64 nu]) (by simp [results, Try.results16, go_sem]) rfl ⟨_, _, _, rfl, ⟨_, _, rfl, .inl rfl⟩, ?_⟩
  exact ((((Below.refl _ _).alloc (Nat.le_refl _) _).alloc (by simp) _).alloc (by simp; omega) _).alloc (by simp; omega) _

set_option maxHeartbeats 1000000 in
theorem twin1 (k f t i nu : Int) (a0 : Option Addr) (kb ko c0 c1 : Nat) (s : ByteArray) (w : World) (hc : w.cell? ⟨kb, ko, none⟩ = some (.string s)) :
    Calls Try.prog 16 #[.agg #[.int .i64 k, .int .i64 f, .int .i64 t, .int .i64 i, .slice a0 0 c0, .slice (some ⟨kb, ko, none⟩) 1 c1, .int .i64 nu]] w fun e w' => Twinned w w' 1 k f t i nu e := by
  have h1 := make29
  have h2 := make30_1
  have h3 := copy29
  have hlt := World.block_lt_of_cell? w _ hc
  simp only at hlt
  have hc2 : (((w.alloc (.cells #[.int .i64 k, .int .i64 f, .int .i64 t, .int .i64 i, .slice a0 0 c0, .slice (some ⟨kb, ko, none⟩) 1 c1, .int .i64 nu] 32)).alloc (.cells #[.int .i64 0, .int .i64 0, .int .i64 0, .int .i64 0, .slice none 0 0, .slice none 0 0, .int .i64 0] 32)).alloc (.cells #[] 65)).cell? ⟨kb, ko, none⟩ = some (.string s) := by
    have hb : Below w.heap.size w (((w.alloc (.cells #[.int .i64 k, .int .i64 f, .int .i64 t, .int .i64 i, .slice a0 0 c0, .slice (some ⟨kb, ko, none⟩) 1 c1, .int .i64 nu] 32)).alloc (.cells #[.int .i64 0, .int .i64 0, .int .i64 0, .int .i64 0, .slice none 0 0, .slice none 0 0, .int .i64 0] 32)).alloc (.cells #[] 65)) :=
      (((Below.refl _ _).alloc (Nat.le_refl _) _).alloc (by simp) _).alloc (by simp; omega) _
    exact ((bcell hb).1 _ _ hlt).trans hc
  have h4 := copy30_1 _ c1 kb ko s hc2
  simp only [World.size_alloc] at h4
  clear hc2 hc
  go_enter Try.func16, Try.ntmps16
  go_wp2
  refine bodyPost_ret (v := .agg #[.int .i64 k, .int .i64 f, .int .i64 t, .int .i64 i, .slice (some ⟨w.heap.size + 1 + 1, 0, none⟩) 0 0, .slice (some ⟨w.heap.size + 1 + 1 + 1, 0, none⟩) 1 1, .int .i64 nu]) (by simp [results, Try.results16, go_sem]) rfl ⟨_, _, _, rfl, ⟨_, _, rfl, .inr ⟨rfl, w.heap.size + 1 + 1 + 1, 0, s, #[.string s], (0, 0), rfl, ?_, rfl⟩⟩, ?_⟩
  · have := (MapKept.heap_alloc (((w.alloc (.cells #[.int .i64 k, .int .i64 f, .int .i64 t, .int .i64 i, .slice (some ⟨w.heap.size + 1 + 1, 0, none⟩) 0 0, .slice (some ⟨w.heap.size + 1 + 1 + 1, 0, none⟩) 1 1, .int .i64 nu] 32)).alloc (.cells #[.int .i64 k, .int .i64 f, .int .i64 t, .int .i64 i, .slice (some ⟨w.heap.size + 1 + 1, 0, none⟩) 0 0, .slice (some ⟨w.heap.size + 1 + 1 + 1, 0, none⟩) 1 1, .int .i64 nu] 32)).alloc (.cells #[] 65)) (.cells #[.string s] 9)).1
    simpa using this
  exact ((((Below.refl _ _).alloc (Nat.le_refl _) _).alloc (by simp) _).alloc (by simp; omega) _).alloc (by simp; omega) _

/-- a message as values: numbers, no change, so many keys -/
theorem twin_any (m : Nat) (k f t i nu : Int) (a0 : Option Addr) (c0 : Nat) (kv : Value) (w : World) (hk : KeysOk w m kv) :
    Calls Try.prog 16 #[.agg #[.int .i64 k, .int .i64 f, .int .i64 t, .int .i64 i, .slice a0 0 c0, kv, .int .i64 nu]] w fun e w' => Twinned w w' m k f t i nu e := by
  obtain ⟨a, cap, rfl, rfl | ⟨rfl, kb, ko, s, cur, fr, rfl, hc, hs⟩⟩ := hk
  · exact twin0 k f t i nu a0 a c0 cap w
  · exact twin1 k f t i nu a0 kb ko c0 cap s w (by unfold World.cell?; rw [hc]; exact hs)

end Go.Proofs.Ytgjpjningkckpaa
