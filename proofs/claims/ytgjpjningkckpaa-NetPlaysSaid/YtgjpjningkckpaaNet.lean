/- What a net is in memory, and the contracts of Len, has, At. -/
import Derived.Test.YtgjpjningkckpaaTwin
import Derived.Deep.AppendLies
namespace Go.Proofs.Ytgjpjningkckpaa
open Go.RowKit
set_option linter.unusedVariables false
set_option linter.unusedSimpArgs false

/-- seven cells that are a message of that number -/
def MsgV (w : World) (m : Nat) (id : Int) (L : List Value) : Prop := ∃ (k f t nu : Int) (a0 : Option Addr) (c0 : Nat) (kv : Value), L = [.int .i64 k, .int .i64 f, .int .i64 t, .int .i64 id, .slice a0 0 c0, kv, .int .i64 nu] ∧ KeysOk w m kv

/-- cells that are messages of those numbers -/
def Msgs (w : World) (m : Nat) : List Int → List Value → Prop
  | [], xs => xs = []
  | id :: r, xs => ∃ L ys, xs = L ++ ys ∧ MsgV w m id L ∧ Msgs w m r ys

theorem MsgV.length {w : World} {m : Nat} {id : Int} {L : List Value} (h : MsgV w m id L) : L.length = 7 := by
  obtain ⟨_, _, _, _, _, _, _, rfl, _⟩ := h; rfl
theorem MsgV.keep {w w' : World} {m : Nat} {id : Int} {L : List Value} (h : MsgV w m id L) (hb : ∀ (k : Nat) (cur : Array Value) (fr : Nat × Nat), w.heap[k]? = some (Obj.cells cur 9 fr) → w'.heap[k]? = w.heap[k]?) : MsgV w' m id L := by
  obtain ⟨k, f, t, nu, a0, c0, kv, rfl, hk⟩ := h
  exact ⟨k, f, t, nu, a0, c0, kv, rfl, hk.keep hb⟩
theorem Msgs.length {w : World} {m : Nat} : ∀ {ids : List Int} {xs : List Value}, Msgs w m ids xs → xs.length = ids.length * 7
  | [], xs, h => by rw [show xs = [] from h]; rfl
  | id :: r, xs, h => by
    obtain ⟨L, ys, rfl, hl, hr⟩ := h
    rw [List.length_append, hl.length, Msgs.length hr, List.length_cons]
    omega
theorem Msgs.keep {w w' : World} {m : Nat} (hb : ∀ (k : Nat) (cur : Array Value) (fr : Nat × Nat), w.heap[k]? = some (Obj.cells cur 9 fr) → w'.heap[k]? = w.heap[k]?) : ∀ {ids : List Int} {xs : List Value}, Msgs w m ids xs → Msgs w' m ids xs
  | [], xs, h => h
  | id :: r, xs, h => by
    obtain ⟨L, ys, rfl, hl, hr⟩ := h
    exact ⟨L, ys, rfl, hl.keep hb, Msgs.keep hb hr⟩
theorem Msgs.append {w : World} {m : Nat} : ∀ {a b : List Int} {xs ys : List Value}, Msgs w m a xs → Msgs w m b ys → Msgs w m (a ++ b) (xs ++ ys)
  | [], b, xs, ys, h, hb => by rw [show xs = [] from h]; exact hb
  | id :: r, b, xs, ys, h, hb => by
    obtain ⟨L, zs, rfl, hl, hr⟩ := h
    exact ⟨L, zs ++ ys, by simp, hl, Msgs.append hr hb⟩
theorem Msgs.one {w : World} {m : Nat} {id : Int} {L : List Value} (h : MsgV w m id L) : Msgs w m [id] L := ⟨L, [], by simp, h, rfl⟩
/-- the first n messages, and those behind them -/
theorem Msgs.split {w : World} {m : Nat} : ∀ (n : Nat) {ids : List Int} {xs : List Value}, Msgs w m ids xs → n ≤ ids.length → Msgs w m (ids.take n) (xs.take (n * 7)) ∧ Msgs w m (ids.drop n) (xs.drop (n * 7))
  | 0, ids, xs, h, _ => by simpa using ⟨rfl, h⟩
  | n + 1, [], xs, h, hn => by simp at hn
  | n + 1, id :: r, xs, h, hn => by
    obtain ⟨L, ys, rfl, hl, hr⟩ := h
    obtain ⟨h1, h2⟩ := Msgs.split n hr (by simpa using hn)
    have e : (n + 1) * 7 = L.length + n * 7 := by rw [hl.length]; omega
    have e1 : (L ++ ys).take ((n + 1) * 7) = L ++ ys.take (n * 7) := by
      rw [e, List.take_append, List.take_of_length_le (l := L) (by omega), Nat.add_sub_cancel_left]
    have e2 : (L ++ ys).drop ((n + 1) * 7) = ys.drop (n * 7) := by
      rw [e, List.drop_append, List.drop_of_length_le (l := L) (by omega), Nat.add_sub_cancel_left]; rfl
    rw [e1, e2]
    exact ⟨⟨L, ys.take (n * 7), rfl, hl, h1⟩, h2⟩
/-- the n-th message's cells -/
theorem Msgs.nth {w : World} {m : Nat} (n : Nat) {ids : List Int} {xs : List Value} (h : Msgs w m ids xs) (hn : n < ids.length) : ∃ L, MsgV w m ids[n] L ∧ ∀ j, j < 7 → xs[n * 7 + j]? = L[j]? := by
  obtain ⟨-, h2⟩ := Msgs.split n h (by omega)
  rw [List.drop_eq_getElem_cons hn] at h2
  obtain ⟨L, ys, e, hl, -⟩ := h2
  refine ⟨L, hl, fun j hj => ?_⟩
  have : (xs.drop (n * 7))[j]? = L[j]? := by rw [e, List.getElem?_append_left (by rw [hl.length]; exact hj)]
  rwa [List.getElem?_drop] at this

/-- a net in memory: its field's block p, the row's own block R, and the numbers of its messages -/
def NetAt (w : World) (p m : Nat) (ids : List Int) (R : Option Nat) : Prop :=
  ∃ v xs, w.heap[p]? = some (.cells #[v] 44 (0, 0)) ∧ w.ownsRow (p + 1) 32 7 v ids.length xs ∧ Msgs w m ids xs ∧ v.ownBlock = R

theorem NetAt.keepB {w w' : World} {p m : Nat} {ids : List Int} {R : Option Nat} (h : NetAt w p m ids R) (hb : ∀ k, k < w.heap.size → w'.heap[k]? = w.heap[k]?) : NetAt w' p m ids R := by
  obtain ⟨v, xs, hp, ho, hm, hR⟩ := h
  refine ⟨v, xs, (hb p (lt_of_block hp)).trans hp, ?_, hm.keep fun k _ _ hk => hb k (lt_of_block hk), hR⟩
  refine ⟨ho.1, ?_⟩
  rcases ho.2 with h0 | ⟨g, cap, cur, hv, hg, hgg, r⟩
  · exact .inl h0
  · exact .inr ⟨g, cap, cur, hv, hg, (hb g (lt_of_block hgg)).trans hgg, r⟩
theorem NetAt.keep {w w' : World} {p m : Nat} {ids : List Int} {R : Option Nat} (h : NetAt w p m ids R) (hb : Below w.heap.size w w') : NetAt w' p m ids R := h.keepB hb.block
theorem NetAt.lt {w : World} {p m : Nat} {ids : List Int} {R : Option Nat} (h : NetAt w p m ids R) : p < w.heap.size := lt_of_block h.choose_spec.choose_spec.1
theorem NetAt.row {w : World} {p m : Nat} {ids : List Int} {R : Option Nat} (h : NetAt w p m ids R) : ∀ g, R = some g → p < g ∧ g < w.heap.size := by
  obtain ⟨v, xs, hp, ho, hm, rfl⟩ := h
  intro g hg
  have := ho.lt g hg
  omega
theorem NetAt.new (w : World) (m : Nat) : NetAt (w.alloc (.cells #[.slice none 0 0] 44)) w.heap.size m [] none :=
  ⟨.slice none 0 0, [], (MapKept.heap_alloc w _).1, World.ownsRow_nil _ _ _ _, rfl, rfl⟩

/-- the field's cell, as a walk reads it: nil, or a slice of so many -/
theorem NetAt.cell {w : World} {p m : Nat} {ids : List Int} {R : Option Nat} (h : NetAt w p m ids R) : ∃ a cap, w.cell? ⟨p, 0, none⟩ = some (.slice a ids.length cap) ∧ w.frozen? ⟨p, 0, none⟩ = false := by
  obtain ⟨v, xs, hp, ho, hm, hR⟩ := h
  have hc : w.cell? ⟨p, 0, none⟩ = some v := by unfold World.cell?; rw [hp]; rfl
  have hf : w.frozen? ⟨p, 0, none⟩ = false := by unfold World.frozen?; rw [hp]; rfl
  rcases ho.2 with ⟨rfl, h0⟩ | ⟨g, cap, cur, rfl, -⟩
  · exact ⟨none, 0, by rw [hc, h0], hf⟩
  · exact ⟨_, cap, hc, hf⟩

set_option maxHeartbeats 400000 in
theorem len_any (w : World) (p m : Nat) (ids : List Int) (R : Option Nat) (h : NetAt w p m ids R) :
    Calls Try.prog 13 #[.pointer (some ⟨p, 0, none⟩)] w fun e w' => e = .returned (.int .i64 (ids.length : Int)) ∧ w = w' := by
  obtain ⟨a, cap, hc, hf⟩ := h.cell
  clear h
  generalize ids.length = n at *
  go_enter Try.func13, Try.ntmps13
  go_wp2
  go_ret
  exact ⟨rfl, rfl⟩

set_option maxHeartbeats 400000 in
theorem has_yes (w : World) (p m : Nat) (ids : List Int) (R : Option Nat) (h : NetAt w p m ids R) (i : Nat) (hi : i < ids.length) :
    Calls Try.prog 15 #[.pointer (some ⟨p, 0, none⟩), .int .i64 (i : Int)] w fun e w' => e = .returned (.bool true) ∧ w = w' := by
  obtain ⟨a, cap, hc, hf⟩ := h.cell
  clear h
  generalize ids.length = n at *
  have h0 : (0 : Int) ≤ (i : Int) := by omega
  have h1 : (i : Int) < (n : Int) := by omega
  go_enter Try.func15, Try.ntmps15
  go_wp2
  go_ret
  exact ⟨by simp [h1, hi], rfl⟩

set_option maxHeartbeats 400000 in
theorem has_no (w : World) (p m : Nat) (ids : List Int) (R : Option Nat) (h : NetAt w p m ids R) (i : Int) (hi : ¬ (0 ≤ i ∧ i < ids.length)) :
    Calls Try.prog 15 #[.pointer (some ⟨p, 0, none⟩), .int .i64 i] w fun e w' => e = .returned (.bool false) ∧ w = w' := by
  obtain ⟨a, cap, hc, hf⟩ := h.cell
  clear h
  generalize ids.length = n at *
  by_cases h0 : 0 ≤ i
  · have h1 : ¬ i < (n : Int) := by omega
    clear hi
    go_enter Try.func15, Try.ntmps15
    go_wp2
    go_ret
    exact ⟨by simp [h1], rfl⟩
  · clear hi
    go_enter Try.func15, Try.ntmps15
    go_wp2
    go_ret
    exact ⟨by simp, rfl⟩

end Go.Proofs.Ytgjpjningkckpaa
