/- The contracts of net's Send. -/
import Derived.Test.YtgjpjningkckpaaAt
import Derived.Deep.RegionLaw
import Derived.Deep.AppendLies
namespace Go.Proofs.Ytgjpjningkckpaa
open Go.RowKit
set_option linter.unusedVariables false
set_option linter.unusedSimpArgs false

theorem info32 : (Try.prog.info? 32).map (fun i => (i.zero, i.size, i.bytes)) = some (some noMsg, 7, 88) := by kernel_rfl

/-- what a call may have turned that sends or takes: the net's field, its row, nothing else that was there -/
structure Moved (w w' : World) (p : Nat) (R : Option Nat) : Prop where
  os : w'.os = w.os
  tape : w'.tape = w.tape
  output : w'.output = w.output
  size : w.heap.size ≤ w'.heap.size
  block : ∀ k, k < w.heap.size → k ≠ p → some k ≠ R → w'.heap[k]? = w.heap[k]?

set_option maxHeartbeats 400000 in
theorem send_full (w : World) (p m : Nat) (ids : List Int) (R : Option Nat) (h : NetAt w p m ids R) (hl : 400 ≤ ids.length) (k f t id nu : Int) (a0 a1 : Option Addr) (c0 c1 n1 : Nat) :
    Calls Try.prog 12 #[.pointer (some ⟨p, 0, none⟩), .agg #[.int .i64 k, .int .i64 f, .int .i64 t, .int .i64 id, .slice a0 0 c0, .slice a1 n1 c1, .int .i64 nu]] w fun e w' => e = .returned (.bool false) ∧ Below w.heap.size w w' := by
  obtain ⟨a, cap, hc, hf⟩ := h.cell
  have hlt := h.lt
  clear h
  have hl' : (400 : Int) ≤ (ids.length : Int) := by omega
  generalize ids.length = n at *
  have hp : (w.alloc (.cells #[.int .i64 k, .int .i64 f, .int .i64 t, .int .i64 id, .slice a0 0 c0, .slice a1 n1 c1, .int .i64 nu] 32)).cell? ⟨p, 0, none⟩ = some (.slice a n cap) := ((bcell (Below.one w _ (Nat.le_refl _))).1 _ _ hlt).trans hc
  clear hc
  go_enter Try.func12, Try.ntmps12
  go_wp2_with fail
  go_ret
  exact ⟨rfl, Below.one w _ (Nat.le_refl _)⟩

/-- a message was sent -/
def Sent (w w' : World) (p m : Nat) (ids : List Int) (R : Option Nat) (e : Ending) : Prop := ∃ R', e = .returned (.bool true) ∧ NetAt w' p m ids R' ∧ (R' = R ∨ ∃ g, R' = some g ∧ w.heap.size ≤ g) ∧ Moved w w' p R

theorem NetAt.form {w : World} {p m : Nat} {ids : List Int} {R : Option Nat} (h : NetAt w p m ids R) : ∃ (a : Option Addr) (cap : Nat) (xs : List Value), w.heap[p]? = some (.cells #[.slice a ids.length cap] 44 (0, 0)) ∧ w.ownsRow (p + 1) 32 7 (.slice a ids.length cap) ids.length xs ∧ Msgs w m ids xs ∧ (Value.slice a ids.length cap).ownBlock = R := by
  obtain ⟨v, xs, hp, ho, hm, hR⟩ := h
  rcases ho.2 with ⟨rfl, h0⟩ | ⟨g, cap, cur, rfl, -⟩
  · exact ⟨none, 0, xs, by rw [h0]; exact hp, by rw [h0] at ho ⊢; exact ho, hm, hR⟩
  · exact ⟨_, cap, xs, hp, ho, hm, hR⟩

theorem row_kind {w : World} {base : Nat} {e : TypeId} {size : Nat} {v : Value} {n : Nat} {xs : List Value} (h : w.ownsRow base e size v n xs) : ∀ g, v.ownBlock = some g → ∃ cur, w.heap[g]? = some (.cells cur e (0, 0)) := by
  intro g hg
  rcases h.2 with ⟨rfl, _⟩ | ⟨g', cap, cur, rfl, _, hgg, _⟩
  · simp [Value.ownBlock] at hg
  · simp [Value.ownBlock] at hg
    subst hg
    exact ⟨cur, hgg⟩

theorem field_set (w : World) (p : Nat) (v u : Value) (h : w.heap[p]? = some (.cells #[v] 44 (0, 0))) : (w.setCell ⟨p, 0, none⟩ u).heap[p]? = some (.cells #[u] 44 (0, 0)) := by
  simp [World.setCell, Array.getElem?_modify, h]

theorem sent_of {w w1 w2 : World} {p m n : Nat} {ids : List Int} {R : Option Nat} {id : Int} {v v' : Value} {xs news : List Value} {O : Obj}
    (hpw : p < w.heap.size) (hp : w1.heap[p]? = some (.cells #[v] 44 (0, 0))) (ho : w1.ownsRow (p + 1) 32 7 v n xs) (hm : Msgs w1 m ids xs) (hR : v.ownBlock = R) (hb : Below w.heap.size w w1) (hnew : MsgV w1 m id news)
    (hown : w2.ownsRow (p + 1) 32 7 v' (n + 1) (xs ++ news)) (hn : ids.length = n) (hgrow : (w1.alloc O).grownBy w2 v.ownBlock) :
    NetAt (w2.setCell ⟨p, 0, none⟩ v') p m (ids ++ [id]) v'.ownBlock ∧ Moved w (w2.setCell ⟨p, 0, none⟩ v') p R := by
  have hrow := row_kind ho
  have hal : ∀ k, k < w1.heap.size → (w1.alloc O).heap[k]? = w1.heap[k]? := fun k hk => Below.heap_alloc w1 O k hk
  have hpne : some p ≠ v.ownBlock := fun e => by
    have := (ho.lt p e.symm).1
    omega
  have hp2 : w2.heap[p]? = some (.cells #[v] 44 (0, 0)) := by
    rw [hgrow.block p (by have := lt_of_block hp; simp; omega) hpne, hal p (lt_of_block hp)]; exact hp
  have h9 : ∀ (k : Nat) (cur : Array Value) (fr : Nat × Nat), w1.heap[k]? = some (Obj.cells cur 9 fr) → (w2.setCell ⟨p, 0, none⟩ v').heap[k]? = w1.heap[k]? := fun k cur fr hk => by
    have hkp : k ≠ p := fun e => by subst e; rw [hp] at hk; simp at hk
    have hkr : some k ≠ v.ownBlock := fun e => by
      obtain ⟨c, hc⟩ := hrow k e.symm
      rw [hc] at hk; simp at hk
    rw [Below.heap_setCell _ _ _ _ hkp, hgrow.block k (by have := lt_of_block hk; simp; omega) hkr, hal k (lt_of_block hk)]
  refine ⟨⟨v', xs ++ news, field_set w2 p v v' hp2, ?_, (hm.keep h9).append (Msgs.one (hnew.keep h9)), rfl⟩, ?_⟩
  · rw [List.length_append, hn]
    exact ownsRow_setCell_below hown (by simp) _
  · refine ⟨hgrow.os.trans hb.os, hgrow.tape.trans hb.tape, hgrow.output.trans hb.output, ?_, fun k hk hkp hkR => ?_⟩
    · have h1 := hb.size
      have h2 := hgrow.size
      simp [World.setCell] at h2 ⊢
      omega
    · rw [Below.heap_setCell _ _ _ _ hkp, hgrow.block k (by have := hb.size; simp; omega) (by rw [hR]; exact hkR), hal k (by have := hb.size; omega), hb.block k hk]

theorem own_keep {w w1 : World} {base : Nat} {e : TypeId} {size : Nat} {v : Value} {n : Nat} {xs : List Value} (h : w.ownsRow base e size v n xs) (hb : Below w.heap.size w w1) : w1.ownsRow base e size v n xs := by
  refine ⟨h.1, ?_⟩
  rcases h.2 with h0 | ⟨g, cap, cur, hv, hg, hgg, r⟩
  · exact .inl h0
  · exact .inr ⟨g, cap, cur, hv, hg, (hb.block g (lt_of_block hgg)).trans hgg, r⟩

theorem field_after {w1 w2 : World} {p n : Nat} {v : Value} {xs : List Value} {O : Obj} (hp : w1.heap[p]? = some (.cells #[v] 44 (0, 0))) (ho : w1.ownsRow (p + 1) 32 7 v n xs) (hgrow : (w1.alloc O).grownBy w2 v.ownBlock) :
    w2.cell? ⟨p, 0, none⟩ = some v ∧ w2.frozen? ⟨p, 0, none⟩ = false := by
  have hpne : some p ≠ v.ownBlock := fun e => by
    have := (ho.lt p e.symm).1
    omega
  have hp2 : w2.heap[p]? = some (.cells #[v] 44 (0, 0)) := by
    rw [hgrow.block p (by have := lt_of_block hp; simp; omega) hpne, Below.heap_alloc w1 O p (lt_of_block hp)]; exact hp
  exact ⟨by simp [World.cell?, hp2], by simp [World.frozen?, hp2]⟩

set_option maxRecDepth 100000 in
set_option maxHeartbeats 4000000 in
theorem send_room (w : World) (p m : Nat) (ids : List Int) (R : Option Nat) (h : NetAt w p m ids R) (hl : ids.length < 400) (k f t id nu : Int) (a0 a1 : Option Addr) (c0 c1 : Nat) (hk : KeysOk w m (.slice a1 m c1)) :
    Calls Try.prog 12 #[.pointer (some ⟨p, 0, none⟩), .agg #[.int .i64 k, .int .i64 f, .int .i64 t, .int .i64 id, .slice a0 0 c0, .slice a1 m c1, .int .i64 nu]] w fun e w' => Sent w w' p m (ids ++ [id]) R e := by
  obtain ⟨a, cap, xs, hpb, ho, hm, hR⟩ := h.form
  have hlt := h.lt
  have hl' : ¬ (400 : Int) ≤ (ids.length : Int) := by omega
  have hp : (w.alloc (.cells #[.int .i64 k, .int .i64 f, .int .i64 t, .int .i64 id, .slice a0 0 c0, .slice a1 m c1, .int .i64 nu] 32)).cell? ⟨p, 0, none⟩ = some (.slice a ids.length cap) := by
    rw [(bcell (Below.one w _ (Nat.le_refl _))).1 _ _ hlt]
    unfold World.cell?
    rw [hpb]; rfl
  obtain ⟨i0, hi, hz0, hz1, hz2⟩ := info_parts info32
  have HI0 := Lib.hid hi
  have HI1 := Lib.hid hz0
  have HI2 := Lib.hid hz1
  have HI3 := Lib.hid hz2
  have HK := Lib.hid hk
  have HPB := Lib.hid hpb
  have HO := Lib.hid ho
  have HM := Lib.hid hm
  have HR := Lib.hid hR
  have HLT := Lib.hid hlt
  obtain ⟨n, hn⟩ : ∃ n, ids.length = n := ⟨_, rfl⟩
  rw [hn] at hp HPB HO HR hl hl'
  have HNN := Lib.hid hn
  clear h hi hz0 hz1 hz2 hk hpb ho hm hR hn
  go_enter Try.func12, Try.ntmps12
  go_wp2_with fail
  go_region_law (first | (refine step_append_lies _ (by rfl) _ _ _ (by rfl) (p + 1) 32 i0 noMsg 7 88 Try.underlying42 HI0.out HI1.out HI2.out HI3.out (by rfl) (by omega) (.slice a n cap) n xs (by rfl) (HO1.out.alloc _) ⟨w1.heap.size, 0, none⟩ 1 1 [.int .i64 k, .int .i64 f, .int .i64 t, .int .i64 id, .slice b0 0 q0, .slice ka m kc, .int .i64 nu] (by rfl) (by rfl) (World.news_of_block (cs := #[.int .i64 k, .int .i64 f, .int .i64 t, .int .i64 id, .slice b0 0 q0, .slice ka m kc, .int .i64 nu]) (t := 32) (fr := (0, 0)) (heap_alloc_new w1 _)) (by simp [Value.oneCell']) (by omega) (by unfold maxLen; omega) (by omega) (by simp; omega) (w1.heap.size + 1) (by simp) ?_; intro g cap2 w2 hown hgrow hat hgl; have hfa := field_after HP1.out HO1.out hgrow; obtain ⟨hfc, hff⟩ := hfa; have HOW := Lib.hid hown; have HGR := Lib.hid hgrow; have HAT := Lib.hid hat; clear hown hgrow hat hp1) | (go_simp; go_at_call 16; refine (twin_any m k f t id nu a0 c0 (.slice a1 m c1) _ (HK.out.below ((Below.one w _ (Nat.le_refl _)).drew))).mono ?_; rintro e w1 ⟨b0, q0, kw, rfl, ⟨ka, kc, rfl, hkk⟩, hb⟩; have hbw := Lib.hid (((Below.one w _ (Nat.le_refl _)).drew).trans (hb.mono (by simp))); have hKW : Hid (KeysOk w1 m (.slice ka m kc)) := ⟨ka, kc, rfl, hkk⟩; clear hkk hb; have hz := Nat.lt_of_lt_of_le HLT.out hbw.out.size; have HP1 := Lib.hid ((hbw.out.block p HLT.out).trans HPB.out); have HO1 := Lib.hid (own_keep HO.out hbw.out); have hp1 : w1.cell? ⟨p, 0, none⟩ = some (.slice a n cap) := (by unfold World.cell?; rw [HP1.out]; rfl)))
  all_goals
    go_wp2_with fail
    go_ret
    have hs := sent_of (id := id) HLT.out HP1.out HO1.out (HM.out.keep fun k cur fr hk => hbw.out.block k (lt_of_block hk)) HR.out hbw.out ⟨k, f, t, nu, b0, q0, _, rfl, hKW.out⟩ HOW.out HNN.out HGR.out
    refine ⟨_, rfl, hs.1, ?_, hs.2⟩
    rcases HAT.out with e | e
    · exact .inl (by rw [← HR.out, e]; rfl)
    · exact .inr ⟨g, rfl, by have := hbw.out.size; omega⟩

end Go.Proofs.Ytgjpjningkckpaa
