/- The walk of the law RingPairs. -/
import Derived.Test.YtecgmmpafccbbaaBack
namespace Go.Proofs.Ytecgmmpafccbbaa
open Go.RowKit
set_option linter.unusedVariables false
set_option linter.unusedSimpArgs false

/-- how many of the first i nodes are owners -/
def cntI (n c f : Int) : Nat → Int
  | 0 => 0
  | i + 1 => cntI n c f i + if pairB n c f i then 1 else 0

theorem cnt_bounds (n c f : Int) : ∀ i : Nat, 0 ≤ cntI n c f i ∧ cntI n c f i ≤ i
  | 0 => by simp [cntI]
  | i + 1 => by
    have := cnt_bounds n c f i
    unfold cntI
    split <;> omega

theorem cnt_fin : ∀ m k f : Fin 5, k.val ≤ m.val → f.val ≤ m.val → cntI (1 + m.val) (1 + k.val) f.val (m.val + 1) = 1 + (k.val : Int) := by decide

theorem cnt_all (m k f : Nat) (hm : m ≤ 4) (hk : k ≤ m) (hf : f ≤ m) : cntI (1 + m) (1 + k) f (m + 1) = 1 + (k : Int) :=
  cnt_fin ⟨m, by omega⟩ ⟨k, by omega⟩ ⟨f, by omega⟩ hk hf

/-- is y the pair of one of the first i nodes? -/
def sawB (n c f g : Int) : Nat → Nat → Bool
  | 0, _ => false
  | i + 1, y => sawB n c f g i y || (pairB n c f i && decide (pairV n c f g i = y))

theorem saw_some (n c f g : Int) (y : Nat) : ∀ i : Nat, sawB n c f g i y = true → ∃ j : Nat, j < i ∧ pairB n c f j = true ∧ pairV n c f g j = y
  | 0, h => by simp [sawB] at h
  | i + 1, h => by
    unfold sawB at h
    simp at h
    rcases h with h | h
    · obtain ⟨j, hj, h1, h2⟩ := saw_some n c f g y i h
      exact ⟨j, by omega, h1, h2⟩
    · exact ⟨i, by omega, h.1, h.2⟩

theorem saw_new (n c f g : Int) (i y : Nat) (hn : 0 < n) (hc : c ≤ n) (f0 : 0 ≤ f) (f1 : f < n) (g0 : 0 ≤ g) (g1 : g < n) (hb : pairB n c f i = true) (hy : pairV n c f g i = y) : sawB n c f g i y = false := by
  cases h : sawB n c f g i y with
  | false => rfl
  | true =>
    exfalso
    obtain ⟨j, hj, h1, h2⟩ := saw_some n c f g y i h
    have e1 := (pair_back n c f g i hn hc f0 f1 g0 g1 hb).2
    have e2 := (pair_back n c f g j hn hc f0 f1 g0 g1 h1).2
    rw [hy] at e1
    rw [h2, e1] at e2
    omega

theorem saw_skip (n c f g : Int) (i y : Nat) (hb : pairB n c f i = false) : sawB n c f g (i + 1) y = sawB n c f g i y := by
  show (sawB n c f g i y || (pairB n c f i && _)) = _
  rw [hb]; simp
theorem saw_other (n c f g : Int) (i y z : Nat) (hy : pairV n c f g i = z) (h : y ≠ z) : sawB n c f g (i + 1) y = sawB n c f g i y := by
  show (sawB n c f g i y || (pairB n c f i && decide (pairV n c f g i = y))) = _
  rw [hy, decide_eq_false (by omega)]; simp
theorem saw_this (n c f g : Int) (i z : Nat) (hb : pairB n c f i = true) (hy : pairV n c f g i = z) : sawB n c f g (i + 1) z = true := by
  show (sawB n c f g i z || (pairB n c f i && decide (pairV n c f g i = z))) = _
  rw [hb, hy]; simp
theorem cnt_skip (n c f : Int) (i : Nat) (hb : pairB n c f i = false) : cntI n c f (i + 1) = cntI n c f i := by
  show cntI n c f i + (if pairB n c f i then 1 else 0) = _
  rw [hb]; simp
theorem cnt_hit (n c f : Int) (i : Nat) (hb : pairB n c f i = true) : cntI n c f (i + 1) = cntI n c f i + 1 := by
  show cntI n c f i + (if pairB n c f i then 1 else 0) = _
  rw [hb]; simp

/-- the block of what was seen -/
def Seen (w : World) (S : Nat) (p : Nat → Bool) : Prop := (∀ y, y < 5 → w.cell? ⟨S, y, none⟩ = some (.bool (p y))) ∧ (∀ y, y < 5 → w.frozen? ⟨S, y, none⟩ = false) ∧ S < w.heap.size
theorem Seen.keep {w w' : World} {S : Nat} {p : Nat → Bool} (h : Seen w S p) (hb : Below w.heap.size w w') : Seen w' S p := by
  obtain ⟨h0, h1, h2⟩ := h
  exact ⟨fun y hy => ((bcell hb).1 _ _ h2).trans (h0 y hy), fun y hy => ((bcell hb).2 _ _ h2).trans (h1 y hy), Nat.lt_of_lt_of_le h2 hb.size⟩
theorem Seen.new (w : World) : Seen (w.alloc (.cells #[.bool false, .bool false, .bool false, .bool false, .bool false] 47)) w.heap.size (fun _ => false) := by
  have e : (w.alloc (.cells #[.bool false, .bool false, .bool false, .bool false, .bool false] 47)).heap[w.heap.size]? = some (.cells #[.bool false, .bool false, .bool false, .bool false, .bool false] 47) := (MapKept.heap_alloc w _).1
  refine ⟨fun y hy => ?_, fun y hy => ?_, by simp⟩
  · unfold World.cell?
    rw [e]
    match y, hy with
    | 0, _ => rfl
    | 1, _ => rfl
    | 2, _ => rfl
    | 3, _ => rfl
    | 4, _ => rfl
  · unfold World.frozen?
    rw [e]
    simp
theorem Seen.store {w : World} {S z : Nat} {p q : Nat → Bool} (h : Seen w S p) (hz : z < 5) (h1 : q z = true) (h2 : ∀ y, y ≠ z → q y = p y) : Seen (w.setCell ⟨S, z, none⟩ (.bool true)) S q := by
  obtain ⟨a, b, c⟩ := h
  refine ⟨fun y hy => ?_, fun y hy => ?_, by simpa [World.setCell] using c⟩
  · by_cases e : y = z
    · subst e
      rw [World.cell?_setCell_same (h := a y hy), h1]
    · rw [World.cell?_setCell_other _ _ _ _ (by simp [Ne.symm e]), a y hy, h2 y e]
  · rw [World.frozen?_setCell]; exact b y hy
theorem Conf3.store {w : World} {B S z : Nat} {n c t : Int} (h : Conf3 w B n c t) (hne : S ≠ B) (v : Value) : Conf3 (w.setCell ⟨S, z, none⟩ v) B n c t := by
  obtain ⟨h0, h1, h2, h3⟩ := h
  refine ⟨?_, ?_, ?_, by simpa [World.setCell] using h3⟩
  · rw [World.cell?_setCell_far _ _ _ _ hne]; exact h0
  · rw [World.cell?_setCell_far _ _ _ _ hne]; exact h1
  · rw [World.cell?_setCell_far _ _ _ _ hne]; exact h2

end Go.Proofs.Ytecgmmpafccbbaa
