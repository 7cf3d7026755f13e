/- The law's own row of numbers beside a net: NetTakes, NetPlays. -/
import Derived.Test.YtgjpjningkckpaaFull
import Derived.BigQuiet
import Derived.Lib.SmallJoins
namespace Go.Proofs.Ytgjpjningkckpaa
open Go.RowKit
set_option linter.unusedVariables false
set_option linter.unusedSimpArgs false

theorem info3 : (Try.prog.info? 3).map (fun i => (i.zero, i.size, i.bytes)) = some (some (.int .i64 0), 1, 8) := by kernel_rfl

def numsV (ids : List Int) : List Value := ids.map (Value.int .i64)
theorem numsV_length (ids : List Int) : (numsV ids).length = ids.length := by unfold numsV; simp
theorem numsV_ones (ids : List Int) : ∀ u ∈ numsV ids, u.oneCell' = true := by
  intro u hu
  unfold numsV at hu
  obtain ⟨i, -, rfl⟩ := List.mem_map.1 hu
  rfl
theorem numsV_get (ids : List Int) (j : Nat) : (numsV ids)[j]? = ids[j]?.map (Value.int .i64) := by unfold numsV; simp

/-- the law's own row of numbers -/
def RowI (w0 w : World) (v : Value) (ids : List Int) : Prop := w.ownsRow w0.heap.size 3 1 v ids.length (numsV ids)

theorem RowI.nil (w0 w : World) : RowI w0 w (.slice none 0 0) [] := World.ownsRow_nil _ _ _ _
theorem RowI.form {w0 w : World} {v : Value} {ids : List Int} (h : RowI w0 w v ids) : ∃ a cap, v = .slice a ids.length cap := by
  rcases h.2 with ⟨rfl, h0⟩ | ⟨g, cap, cur, rfl, -⟩
  · exact ⟨none, 0, by rw [h0]⟩
  · exact ⟨_, cap, rfl⟩
theorem RowI.has {w0 w : World} {v : Value} {ids : List Int} (h : RowI w0 w v ids) (hn : 0 < ids.length) : ∃ g cap, v = .slice (some ⟨g, 0, none⟩) ids.length cap ∧ ids.length ≤ cap ∧ g < w.heap.size ∧ ∀ (j : Nat) (x : Int), ids[j]? = some x → w.cell? ⟨g, j, none⟩ = some (.int .i64 x) := by
  rcases h.2 with ⟨rfl, h0⟩ | ⟨g, cap, cur, rfl, -, hg, hcap, -⟩
  · omega
  · refine ⟨g, cap, rfl, hcap, lt_of_block hg, fun j x hj => ?_⟩
    have hl : j < ids.length := (List.getElem?_eq_some_iff.1 hj).1
    have h' : w.ownsRow w0.heap.size 3 1 (.slice (Option.some ⟨g, 0, none⟩) ids.length cap) ids.length (numsV ids) := h
    rw [h'.cellAt j (by omega), numsV_get, hj]
    rfl
theorem RowI.below {w0 w w' : World} {v : Value} {ids : List Int} (h : RowI w0 w v ids) (hb : Below w.heap.size w w') : RowI w0 w' v ids := own_keep h hb
theorem RowI.typed {w0 w w' : World} {v : Value} {ids : List Int} (h : RowI w0 w v ids) (ht : Typed w w') : RowI w0 w' v ids := by
  refine ⟨h.1, ?_⟩
  rcases h.2 with h0 | ⟨g, cap, cur, hv, hg, hgg, r⟩
  · exact .inl h0
  · exact .inr ⟨g, cap, cur, hv, hg, (ht g cur 3 (0, 0) hgg (by decide) (by decide)).trans hgg, r⟩

/-- the net when the row of numbers grows -/
theorem NetInv.grown {w0 w w' : World} {p m n : Nat} {ids : List Int} {v : Value} {xs : List Value} (h : NetInv w0 w p m ids) (hr : w.ownsRow w0.heap.size 3 1 v n xs) (hg : w.grownBy w' v.ownBlock) : NetInv w0 w' p m ids := by
  obtain ⟨⟨R, u, ys, hp, ho, hm, hR⟩, h1, h2⟩ := h
  have hk := row_kind hr
  have hb : ∀ (k : Nat) (cur : Array Value) (e : TypeId) (fr : Nat × Nat), w.heap[k]? = Option.some (Obj.cells cur e fr) → e ≠ 3 → w'.heap[k]? = w.heap[k]? := fun k cur e fr hkk he => by
    refine hg.block k (lt_of_block hkk) (fun q => ?_)
    obtain ⟨c, hc⟩ := hk k q.symm
    rw [hc] at hkk
    simp only [Option.some.injEq, Obj.cells.injEq] at hkk
    exact he hkk.2.1.symm
  refine ⟨⟨R, u, ys, (hb p _ _ _ hp (by decide)).trans hp, ?_, hm.keep fun k cur fr hkk => hb k cur 9 fr hkk (by decide), hR⟩, ?_, h2⟩
  · refine ⟨ho.1, ?_⟩
    rcases ho.2 with h0 | ⟨g, cap, cur, hv, hgb, hgg, r⟩
    · exact .inl h0
    · exact .inr ⟨g, cap, cur, hv, hgb, (hb g _ _ _ hgg (by decide)).trans hgg, r⟩
  · exact h1.grown hg (h1.size) (fun g e => (hr.lt g e).1)

theorem RowI.of_append {w0 w : World} {v : Value} {ids : List Int} {x : Int} {n : Nat} (hn : n = ids.length) (h : w.ownsRow w0.heap.size 3 1 v (n + 1) (numsV ids ++ [.int .i64 x])) : RowI w0 w v (ids ++ [x]) := by
  subst hn
  unfold RowI numsV
  rw [List.length_append, List.map_append]
  exact h

/-- 'is[:j]' -/
theorem slice25_h (g len cap h : Nat) (hh : h ≤ cap) (W : World) : (Instr.slice 25 (.slice (some ⟨g, 0, none⟩) len cap) none (some (.int .i64 (h : Int))) none).run Try.prog W = .ok (.slice (some ⟨g, 0, none⟩) h cap) W := by
  have := run_slice_h (P := Try.prog) W 25 (some ⟨g, 0, none⟩) len cap Try.underlying25 .i64 h (by omega) (by omega)
  rw [this]
  show (Result.ok (sliced _ _ _ _ 1) W) = _
  simp [sliced, Addr.add]
/-- 'is[l:]' -/
theorem slice25_l (g len cap l : Nat) (h : l ≤ len) : ∃ o : Nat, (cap ≠ l → o = l) ∧ ∀ W : World, (Instr.slice 25 (.slice (some ⟨g, 0, none⟩) len cap) (some (.int .i64 (l : Int))) none none).run Try.prog W = .ok (.slice (some ⟨g, o, none⟩) (len - l) (cap - l)) W := by
  by_cases e : cap = l
  · refine ⟨0, fun h => absurd e h, fun W => ?_⟩
    have := run_slice_l (P := Try.prog) W 25 (some ⟨g, 0, none⟩) len cap Try.underlying25 .i64 l (by omega) (by omega)
    rw [this]
    show (Result.ok (sliced _ _ _ _ 1) W) = _
    simp [sliced, e]
  · refine ⟨l, fun _ => rfl, fun W => ?_⟩
    have := run_slice_l (P := Try.prog) W 25 (some ⟨g, 0, none⟩) len cap Try.underlying25 .i64 l (by omega) (by omega)
    rw [this]
    show (Result.ok (sliced _ _ _ _ 1) W) = _
    simp [sliced, e, add_plain]

/-- append at a step of a region that draws its order, the value a letter -/
theorem step_append_own {P : Program} {w : World} {ops : Array Oper} {o : Oper} {a : Act} {K : Act → World → Prop} {Q : Exit → Act → World → Prop} {E : Prop} (hgd : o.guard = none) (s x : Operand) (t : TypeId)
    (ho : o.op = .call { callee := .builtin .append, args := #[s, x], argTypes := #[t, t] })
    (base : Nat) (e : TypeId) (i : TypeInfo) (z : Value) (size bytes : Nat) (ht : P.underlying t = some (.slice e)) (hi : P.info? e = some i) (hz : i.zero = some z)
    (hsize : i.size = size) (hby : i.bytes = bytes) (hzs : z.cells.size = size) (hsz : 0 < size)
    (v : Value) (n : Nat) (xs : List Value) (hs : a.eval s = v) (hown : w.ownsRow base e size v n xs)
    (ad : Addr) (m c : Nat) (news : List Value) (hx : a.eval x = .slice (some ad) m c) (hl : news.length = m * size) (hnews : ∀ j u, news[j]? = some u → w.cell? (ad.add j) = some u) (h1 : ∀ u ∈ news, u.oneCell' = true)
    (h63 : n + m ≤ maxLen) (hbytes : (n + m) * bytes ≤ 140737488355328) (hbase : base ≤ w.heap.size)
    (h : ∀ v' w', w'.ownsRow base e size v' (n + m) (xs ++ news) → w.grownBy w' v.ownBlock → K (a.put o.dst v') w') :
    if Region.wanted o (yielded ops a.tmps) = true then Oper.wp P o a w K Q else E := by
  have hw : Region.wanted o (yielded ops a.tmps) = true := by simp [Region.wanted, hgd]
  rw [if_pos hw]
  exact wp_append_own w s x t ho base e i z size bytes ht hi hz hsize hby hzs hsz v n xs hs hown ad m c news hx hl hnews h1 h63 hbytes hbase fun v' w' h2 h3 _ => h v' w' h2 h3

/-- the cells before the one that goes -/
theorem news_front {w0 w w1 : World} {g n cap : Nat} {ids : List Int} (h : RowI w0 w (.slice (some ⟨g, 0, none⟩) n cap) ids) (hn : ids.length = n) (hb : Below w.heap.size w w1) (i : Nat) (hi : i < n) : ∀ j u, (numsV (ids.take i))[j]? = some u → w1.cell? ((⟨g, 0, none⟩ : Addr).add j) = some u := by
  intro j u hj
  obtain ⟨g', cap', hv, -, hlt, hc⟩ := h.has (by omega)
  simp only [Value.slice.injEq, Option.some.injEq, Addr.mk.injEq] at hv
  obtain ⟨⟨rfl, -⟩, -⟩ := hv
  rw [add_plain, Nat.zero_add, (bcell hb).1 _ _ hlt]
  rw [numsV_get, List.getElem?_take] at hj
  split at hj
  · cases hx : ids[j]? with
    | none => rw [hx] at hj; cases hj
    | some x => rw [hx] at hj; rw [hc j x hx]; exact hj
  · cases hj
/-- the cells behind it -/
theorem news_back {w0 w w1 : World} {g n cap o : Nat} {ids : List Int} (h : RowI w0 w (.slice (some ⟨g, 0, none⟩) n cap) ids) (hn : ids.length = n) (hb : Below w.heap.size w w1) (i : Nat) (hi : i < n) (ho : cap ≠ i + 1 → o = i + 1) : ∀ j u, (numsV (ids.drop (i + 1)))[j]? = some u → w1.cell? ((⟨g, o, none⟩ : Addr).add j) = some u := by
  intro j u hj
  obtain ⟨g', cap', hv, hcap, hlt, hc⟩ := h.has (by omega)
  simp only [Value.slice.injEq, Option.some.injEq, Addr.mk.injEq] at hv
  obtain ⟨⟨rfl, -⟩, -, rfl⟩ := hv
  rw [numsV_get, List.getElem?_drop] at hj
  cases hx : ids[i + 1 + j]? with
  | none => rw [hx] at hj; cases hj
  | some x =>
    have hl : i + 1 + j < ids.length := (List.getElem?_eq_some_iff.1 hx).1
    have e := ho (by omega)
    subst e
    rw [hx] at hj
    rw [add_plain, (bcell hb).1 _ _ hlt, hc _ x hx]
    exact hj
theorem row_taken {w0 w : World} {v : Value} {ids : List Int} {n i : Nat} (h : w.ownsRow w0.heap.size 3 1 v (0 + i + (n - (i + 1))) ([] ++ numsV (ids.take i) ++ numsV (ids.drop (i + 1)))) (hn : ids.length = n) (hi : i < n) : RowI w0 w v (ids.take i ++ ids.drop (i + 1)) := by
  unfold RowI
  rw [List.length_append, List.length_take, List.length_drop, hn]
  unfold numsV at h ⊢
  rw [List.map_append]
  rw [List.nil_append, Nat.zero_add] at h
  rw [Nat.min_eq_left (by omega)]
  exact h

end Go.Proofs.Ytgjpjningkckpaa
