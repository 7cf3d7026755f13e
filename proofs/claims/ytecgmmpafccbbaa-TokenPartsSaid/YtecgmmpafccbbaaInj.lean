/- Plain arithmetic round the ring: one byte turned turns the place. -/
import Derived.Test.YtecgmmpafccbbaaTok
namespace Go.Proofs.Ytecgmmpafccbbaa

theorem stepI_inj (a b : Int) (c : UInt8) (ha : 0 ≤ a) (ha1 : a < 2147483647) (hb : 0 ≤ b) (hb1 : b < 2147483647) (h : stepI a c = stepI b c) : a = b := by
  unfold stepI at h
  omega

theorem stepI_byte (a : Int) (c d : UInt8) (h : stepI a c = stepI a d) : c = d := by
  have h1 := c.toNat_lt
  have h2 := d.toNat_lt
  unfold stepI at h
  apply UInt8.toNat_inj.1
  omega

theorem moreI_inj (l : List UInt8) : ∀ (a b : Int), 0 ≤ a → a < 2147483647 → 0 ≤ b → b < 2147483647 → moreI a l = moreI b l → a = b := by
  induction l with
  | nil => intro a b _ _ _ _ h; exact h
  | cons c l ih =>
    intro a b ha ha1 hb hb1 h
    have := ih (stepI a c) (stepI b c) (stepI_nonneg _ _) (stepI_lt _ _) (stepI_nonneg _ _) (stepI_lt _ _) h
    exact stepI_inj a b c ha ha1 hb hb1 this

theorem moreI_turned (l : List UInt8) (i : Nat) (x : UInt8) (t : Int) (h0 : 0 ≤ t) (h1 : t < 2147483647) (hi : i < l.length) (hx : x ≠ l[i]) : moreI t (l.set i x) ≠ moreI t l := by
  intro h
  have e1 : l.set i x = l.take i ++ x :: l.drop (i + 1) := List.set_eq_take_append_cons_drop.trans (if_pos hi)
  have e2 : l = l.take i ++ l[i] :: l.drop (i + 1) := by simp
  rw [e1] at h
  conv at h => rhs; rw [e2]
  rw [moreI_append, moreI_append] at h
  obtain ⟨b0, b1⟩ := moreI_bounds (l.take i) t h0 h1
  have := moreI_inj (l.drop (i + 1)) (stepI (moreI t (l.take i)) x) (stepI (moreI t (l.take i)) l[i]) (stepI_nonneg _ _) (stepI_lt _ _) (stepI_nonneg _ _) (stepI_lt _ _) h
  exact hx (stepI_byte _ _ _ this)

end Go.Proofs.Ytecgmmpafccbbaa
