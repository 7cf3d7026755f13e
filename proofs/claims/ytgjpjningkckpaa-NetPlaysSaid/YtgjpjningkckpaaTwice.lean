/- The contracts of net's Twice, and of the example that all laws of package net end with. -/
import Derived.Test.YtgjpjningkckpaaTake
namespace Go.Proofs.Ytgjpjningkckpaa
open Go.RowKit
set_option linter.unusedVariables false
set_option linter.unusedSimpArgs false

theorem Moved.behind {w w1 w2 : World} {p : Nat} {R : Option Nat} (hb : Below w.heap.size w w1) (h : Moved w1 w2 p R) : Moved w w2 p R :=
  ⟨h.os.trans hb.os, h.tape.trans hb.tape, h.output.trans hb.output, Nat.le_trans hb.size h.size, fun k hk h1 h2 => (h.block k (Nat.lt_of_lt_of_le hk hb.size) h1 h2).trans (hb.block k hk)⟩
theorem Sent.behind {w w1 w2 : World} {p m : Nat} {ids : List Int} {R : Option Nat} {e : Ending} (hb : Below w.heap.size w w1) (h : Sent w1 w2 p m ids R e) : Sent w w2 p m ids R e := by
  obtain ⟨R', he, hn, hr, hm⟩ := h
  refine ⟨R', he, hn, ?_, hm.behind hb⟩
  rcases hr with h | ⟨g, h1, h2⟩
  · exact .inl h
  · exact .inr ⟨g, h1, Nat.le_trans hb.size h2⟩

set_option maxHeartbeats 1000000 in
theorem twice_no (w : World) (p m : Nat) (ids : List Int) (R : Option Nat) (h : NetAt w p m ids R) (i : Int) (hi : ¬ (0 ≤ i ∧ i < ids.length)) :
    Calls Try.prog 10 #[.pointer (some ⟨p, 0, none⟩), .int .i64 i] w fun e w' => e = .returned (.bool false) ∧ Below w.heap.size w w' := by
  have HA := Lib.hid (at_no w p m ids R h i hi)
  clear h hi
  go_enter Try.func10, Try.ntmps10
  go_wp2_with fail
  refine HA.out.mono ?_
  rintro e w1 ⟨rfl, hb⟩
  unfold noMsg
  have HB := Lib.hid hb
  clear hb
  go_wp2_with fail
  go_ret
  exact ⟨rfl, HB.out.alloc HB.out.size _⟩

set_option maxHeartbeats 1000000 in
theorem twice_full (w : World) (p m : Nat) (ids : List Int) (R : Option Nat) (h : NetAt w p m ids R) (i : Nat) (hi : i < ids.length) (hl : 400 ≤ ids.length) :
    Calls Try.prog 10 #[.pointer (some ⟨p, 0, none⟩), .int .i64 (i : Int)] w fun e w' => e = .returned (.bool false) ∧ Below w.heap.size w w' := by
  have HA := Lib.hid (at_yes w p m ids R h i hi _ rfl)
  have HN := Lib.hid h
  generalize ids[i] = id at *
  clear h
  go_enter Try.func10, Try.ntmps10
  go_wp2_with fail
  refine HA.out.mono ?_
  rintro e w1 ⟨k, f, t, nu, a0, c0, kv, rfl, ⟨ka, kc, rfl, hkk⟩, hb⟩
  have HB := Lib.hid hb
  clear hb hkk
  go_wp2_with fail
  refine (send_full _ p m ids R ((HN.out.keep HB.out).keep (Below.one w1 _ (Nat.le_refl _))) hl k f t id nu a0 ka c0 kc m).mono ?_
  rintro e w2 ⟨rfl, hb⟩
  have HB2 := Lib.hid ((HB.out.alloc HB.out.size (.cells #[.int .i64 k, .int .i64 f, .int .i64 t, .int .i64 id, .slice a0 0 c0, .slice ka m kc, .int .i64 nu] 32)).trans (hb.mono (by have := HB.out.size; simp; omega)))
  clear hb
  go_wp2_with fail
  go_ret
  exact ⟨rfl, HB2.out⟩

set_option maxHeartbeats 1000000 in
theorem twice_yes (w : World) (p m : Nat) (ids : List Int) (R : Option Nat) (h : NetAt w p m ids R) (i : Nat) (hi : i < ids.length) (hl : ids.length < 400) (id : Int) (hid : ids[i] = id) :
    Calls Try.prog 10 #[.pointer (some ⟨p, 0, none⟩), .int .i64 (i : Int)] w fun e w' => Sent w w' p m (ids ++ [id]) R e := by
  have HA := Lib.hid (at_yes w p m ids R h i hi _ hid)
  have HN := Lib.hid h
  have HL := Lib.hid hl
  clear h hid hl hi
  go_enter Try.func10, Try.ntmps10
  go_wp2_with fail
  refine HA.out.mono ?_
  rintro e w1 ⟨k, f, t, nu, a0, c0, kv, rfl, ⟨ka, kc, rfl, hkk⟩, hb⟩
  have HB := Lib.hid hb
  have HK : Hid (KeysOk w1 m (.slice ka m kc)) := ⟨ka, kc, rfl, hkk⟩
  clear hb hkk
  go_wp2_with fail
  refine (send_room _ p m ids R ((HN.out.keep HB.out).keep (Below.one w1 _ (Nat.le_refl _))) HL.out k f t id nu a0 ka c0 kc (HK.out.below (Below.one w1 _ (Nat.le_refl _)))).mono ?_
  rintro e w2 ⟨R', rfl, hn, hr, hmv⟩
  have HS : Hid (Sent w w2 p m (ids ++ [id]) R (.returned (.bool true))) := Sent.behind (HB.out.alloc HB.out.size (.cells #[.int .i64 k, .int .i64 f, .int .i64 t, .int .i64 id, .slice a0 0 c0, .slice ka m kc, .int .i64 nu] 32)) ⟨R', rfl, hn, hr, hmv⟩
  clear hn hr hmv
  go_wp2_with fail
  go_ret
  exact HS.out

theorem Moved.below {B : Nat} {w0 w w' : World} {p : Nat} {R : Option Nat} (h0 : Below B w0 w) (h : Moved w w' p R) (hB : B ≤ w.heap.size) (hp : B ≤ p) (hR : ∀ g, R = some g → B ≤ g) : Below B w0 w' :=
  h0.trans ⟨h.os, h.tape, h.output, h.size, fun k hk => h.block k (by omega) (by omega) (fun e => by have := hR k e.symm; omega)⟩

/-- the net of a law under way: made behind w0, nothing of w0 turned -/
def NetInv (w0 w : World) (p m : Nat) (ids : List Int) : Prop := (∃ R, NetAt w p m ids R) ∧ Below w0.heap.size w0 w ∧ w0.heap.size ≤ p
/-- blocks of other kinds than a net's field and its row are as they were -/
def Typed (w w' : World) : Prop := ∀ (k : Nat) (cur : Array Value) (e : TypeId) (fr : Nat × Nat), w.heap[k]? = some (Obj.cells cur e fr) → e ≠ 44 → e ≠ 32 → w'.heap[k]? = w.heap[k]?
theorem Typed.below {w w' : World} (h : Below w.heap.size w w') : Typed w w' := fun k _ _ _ hk _ _ => h.block k (lt_of_block hk)
theorem Typed.trans {a b c : World} (h : Typed a b) (k : Typed b c) : Typed a c := fun q cur e fr hq h1 h2 => by
  have e1 := h q cur e fr hq h1 h2
  rw [k q cur e fr (e1.trans hq) h1 h2, e1]
theorem NetInv.keep {w0 w w' : World} {p m : Nat} {ids : List Int} (h : NetInv w0 w p m ids) (hb : Below w.heap.size w w') : NetInv w0 w' p m ids := by
  obtain ⟨⟨R, hn⟩, h1, h2⟩ := h
  exact ⟨⟨R, hn.keep hb⟩, h1.trans (hb.mono h1.size), h2⟩
theorem NetInv.new (w0 w : World) (m : Nat) (h : Below w0.heap.size w0 w) : NetInv w0 (w.alloc (.cells #[.slice none 0 0] 44)) w.heap.size m [] :=
  ⟨⟨none, NetAt.new w m⟩, h.alloc h.size _, h.size⟩
theorem NetAt.typed {w w' : World} {p m : Nat} {ids : List Int} {R : Option Nat} (h : NetAt w p m ids R) (hm : Moved w w' p R) : Typed w w' := fun k cur e fr hk h1 h2 => by
  obtain ⟨v, xs, hp, ho, -, hR⟩ := h
  refine hm.block k (lt_of_block hk) (fun q => ?_) (fun q => ?_)
  · subst q; rw [hp] at hk; simp only [Option.some.injEq, Obj.cells.injEq] at hk; exact h1 hk.2.1.symm
  · obtain ⟨c, hc⟩ := row_kind ho k (by rw [hR]; exact q.symm)
    rw [hc] at hk; simp only [Option.some.injEq, Obj.cells.injEq] at hk; exact h2 hk.2.1.symm
theorem NetInv.moved {w0 w w' : World} {p m : Nat} {ids ids' : List Int} {R R' : Option Nat} (h1 : Below w0.heap.size w0 w) (h2 : w0.heap.size ≤ p) (hn : NetAt w p m ids R) (hm : Moved w w' p R) (hn' : NetAt w' p m ids' R') : NetInv w0 w' p m ids' ∧ Typed w w' :=
  ⟨⟨⟨R', hn'⟩, hm.below h1 h1.size h2 (fun g hg => by have := (hn.row g hg).1; omega), h2⟩, hn.typed hm⟩

theorem inv_send (w0 w : World) (p m : Nat) (ids : List Int) (h : NetInv w0 w p m ids) (hl : ids.length < 400) (k f t id nu : Int) (a0 a1 : Option Addr) (c0 c1 : Nat) (hk : KeysOk w m (.slice a1 m c1)) :
    Calls Try.prog 12 #[.pointer (some ⟨p, 0, none⟩), .agg #[.int .i64 k, .int .i64 f, .int .i64 t, .int .i64 id, .slice a0 0 c0, .slice a1 m c1, .int .i64 nu]] w fun e w' => e = .returned (.bool true) ∧ NetInv w0 w' p m (ids ++ [id]) ∧ Typed w w' := by
  obtain ⟨⟨R, hn⟩, h1, h2⟩ := h
  exact (send_room w p m ids R hn hl k f t id nu a0 a1 c0 c1 hk).mono fun e w' ⟨R', he, hn', _, hm⟩ => ⟨he, NetInv.moved h1 h2 hn hm hn'⟩
theorem inv_send_full (w0 w : World) (p m : Nat) (ids : List Int) (h : NetInv w0 w p m ids) (hl : 400 ≤ ids.length) (k f t id nu : Int) (a0 a1 : Option Addr) (c0 c1 n1 : Nat) :
    Calls Try.prog 12 #[.pointer (some ⟨p, 0, none⟩), .agg #[.int .i64 k, .int .i64 f, .int .i64 t, .int .i64 id, .slice a0 0 c0, .slice a1 n1 c1, .int .i64 nu]] w fun e w' => e = .returned (.bool false) ∧ NetInv w0 w' p m ids ∧ Typed w w' := by
  obtain ⟨⟨R, hn⟩, h1, h2⟩ := h
  exact (send_full w p m ids R hn hl k f t id nu a0 a1 c0 c1 n1).mono fun e w' ⟨he, hb⟩ => ⟨he, NetInv.keep ⟨⟨R, hn⟩, h1, h2⟩ hb, Typed.below hb⟩
theorem inv_twice (w0 w : World) (p m : Nat) (ids : List Int) (h : NetInv w0 w p m ids) (i : Nat) (hi : i < ids.length) (hl : ids.length < 400) (id : Int) (hid : ids[i] = id) :
    Calls Try.prog 10 #[.pointer (some ⟨p, 0, none⟩), .int .i64 (i : Int)] w fun e w' => e = .returned (.bool true) ∧ NetInv w0 w' p m (ids ++ [id]) ∧ Typed w w' := by
  obtain ⟨⟨R, hn⟩, h1, h2⟩ := h
  exact (twice_yes w p m ids R hn i hi hl id hid).mono fun e w' ⟨R', he, hn', _, hm⟩ => ⟨he, NetInv.moved h1 h2 hn hm hn'⟩
theorem inv_twice_no (w0 w : World) (p m : Nat) (ids : List Int) (h : NetInv w0 w p m ids) (i : Int) (hi : ¬ (0 ≤ i ∧ i < ids.length)) :
    Calls Try.prog 10 #[.pointer (some ⟨p, 0, none⟩), .int .i64 i] w fun e w' => e = .returned (.bool false) ∧ NetInv w0 w' p m ids ∧ Typed w w' := by
  obtain ⟨⟨R, hn⟩, h1, h2⟩ := h
  exact (twice_no w p m ids R hn i hi).mono fun e w' ⟨he, hb⟩ => ⟨he, NetInv.keep ⟨⟨R, hn⟩, h1, h2⟩ hb, Typed.below hb⟩
theorem inv_twice_full (w0 w : World) (p m : Nat) (ids : List Int) (h : NetInv w0 w p m ids) (i : Nat) (hi : i < ids.length) (hl : 400 ≤ ids.length) :
    Calls Try.prog 10 #[.pointer (some ⟨p, 0, none⟩), .int .i64 (i : Int)] w fun e w' => e = .returned (.bool false) ∧ NetInv w0 w' p m ids ∧ Typed w w' := by
  obtain ⟨⟨R, hn⟩, h1, h2⟩ := h
  exact (twice_full w p m ids R hn i hi hl).mono fun e w' ⟨he, hb⟩ => ⟨he, NetInv.keep ⟨⟨R, hn⟩, h1, h2⟩ hb, Typed.below hb⟩
theorem inv_len (w0 w : World) (p m : Nat) (ids : List Int) (h : NetInv w0 w p m ids) :
    Calls Try.prog 13 #[.pointer (some ⟨p, 0, none⟩)] w fun e w' => e = .returned (.int .i64 (ids.length : Int)) ∧ w = w' := by
  obtain ⟨⟨R, hn⟩, h1, h2⟩ := h
  exact len_any w p m ids R hn

/-- a message with that number -/
def Msg (m : Nat) (id : Int) (v : Value) : Prop := ∃ (k f t nu : Int) (a0 : Option Addr) (c0 : Nat) (ka : Option Addr) (kc : Nat), v = .agg #[.int .i64 k, .int .i64 f, .int .i64 t, .int .i64 id, .slice a0 0 c0, .slice ka m kc, .int .i64 nu]
/-- what At and Take answer where there is one -/
def Got (w w' w0 : World) (p m : Nat) (ids : List Int) (id : Int) (e : Ending) : Prop := ∃ (k f t nu : Int) (a0 : Option Addr) (c0 : Nat) (ka : Option Addr) (kc : Nat), e = .returned (.tuple #[.agg #[.int .i64 k, .int .i64 f, .int .i64 t, .int .i64 id, .slice a0 0 c0, .slice ka m kc, .int .i64 nu], .bool true]) ∧ NetInv w0 w' p m ids ∧ Typed w w'
theorem inv_at (w0 w : World) (p m : Nat) (ids : List Int) (h : NetInv w0 w p m ids) (i : Nat) (hi : i < ids.length) (id : Int) (hid : ids[i] = id) :
    Calls Try.prog 11 #[.pointer (some ⟨p, 0, none⟩), .int .i64 (i : Int)] w fun e w' => Got w w' w0 p m ids id e := by
  obtain ⟨⟨R, hn⟩, h1, h2⟩ := h
  refine (at_yes w p m ids R hn i hi id hid).mono fun e w' hg => ?_
  obtain ⟨k, f, t, nu, a0, c0, kv, he, ⟨ka, kc, rfl, -⟩, hb⟩ := hg
  exact ⟨k, f, t, nu, a0, c0, ka, kc, he, NetInv.keep ⟨⟨R, hn⟩, h1, h2⟩ hb, Typed.below hb⟩
theorem inv_at_no (w0 w : World) (p m : Nat) (ids : List Int) (h : NetInv w0 w p m ids) (i : Int) (hi : ¬ (0 ≤ i ∧ i < ids.length)) :
    Calls Try.prog 11 #[.pointer (some ⟨p, 0, none⟩), .int .i64 i] w fun e w' => e = .returned (.tuple #[noMsg, .bool false]) ∧ NetInv w0 w' p m ids ∧ Typed w w' := by
  obtain ⟨⟨R, hn⟩, h1, h2⟩ := h
  exact (at_no w p m ids R hn i hi).mono fun e w' ⟨he, hb⟩ => ⟨he, NetInv.keep ⟨⟨R, hn⟩, h1, h2⟩ hb, Typed.below hb⟩
theorem inv_take (w0 w : World) (p m : Nat) (ids : List Int) (h : NetInv w0 w p m ids) (hl : ids.length ≤ 400) (i : Nat) (hi : i < ids.length) (id : Int) (hid : ids[i] = id) :
    Calls Try.prog 9 #[.pointer (some ⟨p, 0, none⟩), .int .i64 (i : Int)] w fun e w' => Got w w' w0 p m (ids.take i ++ ids.drop (i + 1)) id e := by
  obtain ⟨⟨R, hn⟩, h1, h2⟩ := h
  obtain ⟨N, hN⟩ : ∃ N, ids.length = N + 1 := ⟨ids.length - 1, by omega⟩
  refine (take_yes w p m ids R hn N i hN (by omega) (by omega) id hid).mono fun e w' hg => ?_
  obtain ⟨k, f, t, nu, a0, c0, ka, kc, g', he, -, hn', -, hm⟩ := hg
  have hm' : Moved w w' p R := ⟨hm.os, hm.tape, hm.output, hm.size, fun k hk h1 _ => hm.block k hk h1 (by simp)⟩
  exact ⟨k, f, t, nu, a0, c0, ka, kc, he, NetInv.moved h1 h2 hn hm' hn'⟩
theorem inv_take_no (w0 w : World) (p m : Nat) (ids : List Int) (h : NetInv w0 w p m ids) (i : Int) (hi : ¬ (0 ≤ i ∧ i < ids.length)) :
    Calls Try.prog 9 #[.pointer (some ⟨p, 0, none⟩), .int .i64 i] w fun e w' => e = .returned (.tuple #[noMsg, .bool false]) ∧ NetInv w0 w' p m ids ∧ Below w.heap.size w w' := by
  obtain ⟨⟨R, hn⟩, h1, h2⟩ := h
  exact (take_no w p m ids R hn i hi).mono fun e w' ⟨he, hb⟩ => ⟨he, NetInv.keep ⟨⟨R, hn⟩, h1, h2⟩ hb, hb⟩

theorem noKeys (w : World) : KeysOk w 0 (.slice none 0 0) := ⟨none, 0, rfl, .inl rfl⟩

set_option maxHeartbeats 1000000 in
theorem awake22_any (w : World) :
    Calls Try.prog 14 #[] w fun e w' => e = .returned (.bool true) ∧ Below w.heap.size w w' := by
  go_enter Try.func14, Try.ntmps14
  go_wp2_with fail
  refine (new_any _).mono ?_
  rintro e w1 ⟨rfl, rfl⟩
  have HN := Lib.hid (NetInv.new w w 0 (Below.refl _ _))
  go_wp2_with fail
  refine (inv_send w _ w.heap.size 0 [] HN.out (by decide) 1 0 0 0 0 none none 0 0 (noKeys _)).mono ?_
  rintro e w2 ⟨rfl, hn, -⟩
  have HN2 := Lib.hid hn
  clear hn
  go_wp2_with fail
  refine (inv_twice w _ w.heap.size 0 [0] HN2.out 0 (by decide) (by decide) 0 rfl).mono ?_
  rintro e w3 ⟨rfl, hn, -⟩
  have HN3 := Lib.hid hn
  clear hn
  go_wp2_with fail
  refine (inv_len w _ w.heap.size 0 [0, 0] HN3.out).mono ?_
  rintro e w4 ⟨rfl, rfl⟩
  go_wp2_with fail
  go_ret
  exact ⟨rfl, HN3.out.2.1⟩

end Go.Proofs.Ytgjpjningkckpaa
