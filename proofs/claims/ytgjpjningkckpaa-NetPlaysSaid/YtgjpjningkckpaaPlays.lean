/- The walk of the law NetPlays. -/
import Derived.Test.YtgjpjningkckpaaOrders
import Derived.Test.YtgjpjningkckpaaRow
import Derived.Deep.RegionHeld3
namespace Go.Proofs.Ytgjpjningkckpaa
open Go.RowKit
set_option linter.unusedVariables false
set_option linter.unusedSimpArgs false

theorem two_add (x : Addr) (i : Nat) : x.add (i * 2 + 1) = ⟨(x.add (i * 2)).block, (x.add (i * 2)).off + 1, none⟩ := by
  unfold Addr.add
  rw [if_neg (by omega)]
  by_cases h : i * 2 = 0
  · rw [if_pos h, h]
  · rw [if_neg h]; simp [Nat.add_assoc]

/-- what the walk is told of the script that came in -/
def OpsIn (w : World) (a : Option Addr) (len : Nat) : Prop := ∀ i : Nat, i < len → ∃ x, a = some x ∧ ∃ k z : Int, w.cell? (x.add (i * 2)) = some (.int .i64 k) ∧ w.cell? (x.add (i * 2 + 1)) = some (.int .i64 z)
theorem OpsIn.at {w wr : World} {a : Option Addr} {len : Nat} (h : OpsIn w a len) (hb : Below w.heap.size w wr) (i : Nat) (hi : i < len) : ∃ x, a = some x ∧ ∃ k z : Int, wr.cell? (x.add (i * 2)) = some (.int .i64 k) ∧ wr.cell? ⟨(x.add (i * 2)).block, (x.add (i * 2)).off + 1, none⟩ = some (.int .i64 z) := by
  obtain ⟨x, hx, k, z, hk, hz⟩ := h i hi
  refine ⟨x, hx, k, z, ?_, ?_⟩
  · rw [World.cell?_of_block (hb.block _ (World.block_lt_of_cell? w _ hk))]; exact hk
  · rw [← two_add, World.cell?_of_block (hb.block _ (World.block_lt_of_cell? w _ hz))]; exact hz

/-- the call of the script, in its box -/
def BoxO (w : World) (B : Nat) (k n : Int) : Prop := w.heap[B]? = some (.cells #[.int .i64 k, .int .i64 n] 27 (0, 0))
theorem BoxO.typed {w w' : World} {B : Nat} {k n : Int} (h : BoxO w B k n) (ht : Typed w w') : BoxO w' B k n := (ht B _ 27 _ h (by decide) (by decide)).trans h
theorem BoxO.below {w w' : World} {B : Nat} {k n : Int} (h : BoxO w B k n) (hb : Below w.heap.size w w') : BoxO w' B k n := (hb.block B (lt_of_block h)).trans h
theorem BoxO.grown {w w' : World} {B base m : Nat} {k n : Int} {v : Value} {xs : List Value} (h : BoxO w B k n) (hr : w.ownsRow base 3 1 v m xs) (hg : w.grownBy w' v.ownBlock) : BoxO w' B k n := by
  refine (hg.block B (lt_of_block h) (fun q => ?_)).trans h
  obtain ⟨c, hc⟩ := row_kind hr B q.symm
  have h' : w.heap[B]? = _ := h
  rw [hc] at h'
  simp at h'
theorem BoxO.cell {w : World} {B : Nat} {k n : Int} (h : BoxO w B k n) : w.cell? ⟨B, 1, none⟩ = some (.int .i64 n) := by
  unfold World.cell?
  rw [show w.heap[B]? = _ from h]
  rfl

set_option maxRecDepth 100000 in
set_option maxHeartbeats 3000000 in
theorem plays_walk (a0 : Option Addr) (len1 cap1 : Nat) (w : World) (hin : OpsIn w a0 len1) :
    Calls Try.prog 3 #[.slice a0 len1 cap1] w fun e w' => e = .returned (.bool true) ∧ Below w.heap.size w w' := by
  have HIN := Lib.hid hin
  obtain ⟨i0, hi, hz0, hz1, hz2⟩ := info_parts info3
  have HI0 := Lib.hid hi
  have HI1 := Lib.hid hz0
  have HI2 := Lib.hid hz1
  have HI3 := Lib.hid hz2
  clear hin hi hz0 hz1 hz2
  go_enter Try.func3, Try.ntmps3
  go_wp2_with fail
  refine (new_any _).mono ?_
  rintro e w1 ⟨rfl, rfl⟩
  have HN := Lib.hid (NetInv.new w w 0 (Below.refl _ _))
  generalize w.alloc _ = W1 at *
  generalize hpp : w.heap.size = p at HN ⊢
  have HPP := Lib.hid hpp
  clear hpp
  go_wp2_with fail
  go_loopw [4, 5] (fun lv iv wr => ∃ (q : Nat) (ids : List Int), q ≤ 500 ∧ iv = .int .i64 q ∧ ids.length ≤ 400 ∧ NetInv w wr p 0 ids ∧ RowI w wr lv ids) (fun _ iv _ => 500 - (intOf iv).toNat)
  case atStart => exact ⟨0, [], by omega, rfl, by simp, HN.out, RowI.nil _ _⟩
  case round =>
    clear HN
    obtain ⟨q, ids, hq, rfl, hl4, hat, hrow⟩ := hrel
    obtain ⟨n, hn⟩ : ∃ n, ids.length = n := ⟨_, rfl⟩
    obtain ⟨a, cap, hv⟩ := hrow.form
    rw [hn] at hl4 hv
    subst hv
    have HA := Lib.hid hat
    have HR := Lib.hid hrow
    have HL := Lib.hid hn
    clear hat hrow hn
    by_cases hboth : q < len1 ∧ q < 500
    · obtain ⟨hq1, hq5⟩ := hboth
      have hq2 : (q : Int) < (len1 : Int) := by omega
      have hq0 : (0 : Int) ≤ (q : Int) := by omega
      have hq6 : (q : Int) < 500 := by omega
      obtain ⟨x, hx, kd, nn, hc0, hc1⟩ := HIN.out.at HA.out.2.1 q hq1
      subst hx
      have h3 : ((0 : Int) ≤ nn ∧ nn < (n : Int)) ∨ ¬ (0 : Int) ≤ nn ∨ ((0 : Int) ≤ nn ∧ ¬ nn < (n : Int)) := by omega
      rcases h3 with ⟨hnn, hnn2⟩ | hnn | ⟨hnn, hnn2⟩
      · obtain ⟨j, rfl⟩ : ∃ j : Nat, nn = (j : Int) := ⟨nn.toNat, by omega⟩
        have hj : j < n := by omega
        obtain ⟨g, cap', hv, hcap, -, -⟩ := HR.out.has (by rw [HL.out]; omega)
        simp only [Value.slice.injEq] at hv
        obtain ⟨rfl, -, rfl⟩ := hv
        rw [HL.out] at hcap
        obtain ⟨id, hid⟩ : ∃ id, ids[j]? = some id := ⟨ids[j]'(by rw [HL.out]; exact hj), List.getElem?_eq_getElem _⟩
        have HID := Lib.hid hid
        clear hid
        obtain ⟨s, hs, hsv⟩ := place_nat kd 5 (by omega)
        have hs5 : s = 0 ∨ s = 1 ∨ s = 2 ∨ s = 3 ∨ s = 4 := by omega
        rcases hs5 with rfl | rfl | rfl | rfl | rfl
        · as_aux_lemma =>
            have HS : Hid (placeI kd 5 = (0 : Int)) := hsv
            clear hsv
            go_wp2_with fail
            refine (place_is _ _ _ HS.out (by omega) (by omega) _).mono ?_
            rintro e w3 ⟨rfl, rfl⟩
            have HA6 := Lib.hid (HA.out.keep (Below.one wr (.cells #[.int .i64 kd, .int .i64 (j : Int)] 27) (Nat.le_refl _)))
            have HR6 := Lib.hid (HR.out.below (Below.one wr (.cells #[.int .i64 kd, .int .i64 (j : Int)] 27) (Nat.le_refl _)))
            have HO6 : Hid (BoxO (wr.alloc (.cells #[.int .i64 kd, .int .i64 (j : Int)] 27)) wr.heap.size kd (j : Int)) := (MapKept.heap_alloc wr _).1
            clear HA HR hc0 hc1
            by_cases hnr : n < 400
            · have hroom : (n : Int) < 400 := by omega
              go_wp2_with fail
              refine (inv_send w _ p 0 ids HA6.out (by rw [HL.out]; omega) 2 0 0 (1 + (q : Int)) 0 none none 0 0 (noKeys _)).mono ?_
              rintro e w7 ⟨rfl, hn, ht⟩
              have HN7 := Lib.hid hn
              have HR7 := Lib.hid (HR6.out.typed ht)
              clear hn ht HA6 HR6
              have HOW : Hid (w7.ownsRow w.heap.size 3 1 (.slice (some ⟨g, 0, none⟩) n cap) n (numsV ids)) := by have h0 := HR7.out; unfold RowI at h0; rw [HL.out] at h0; exact h0
              have HB7 : Hid (w.heap.size ≤ w7.heap.size) := HN7.out.2.1.size
              go_wp2_with (first | (at_builtin; refine wpList_append_own _ rfl _ _ 25 rfl w.heap.size 3 i0 (.int .i64 0) 1 8 Try.underlying25 HI0.out HI1.out HI2.out HI3.out rfl (by decide) _ _ _ rfl (HOW.out.alloc _) ⟨w7.heap.size, 0, none⟩ 1 1 [.int .i64 (1 + (q : Int))] rfl rfl ?c1 ?c2 ?c3 ?c4 ?c5 ?_))
              case c1 => exact cell_one_new _ _ _
              case c2 => intro u hu; simp at hu; subst hu; rfl
              case c3 => unfold maxLen; omega
              case c4 => omega
              case c5 => have := HB7.out; simp; omega
              intro v' w8 hown hgrow _
              have HN8 : Hid (NetInv w w8 p 0 (ids ++ [1 + (q : Int)])) := (HN7.out.keep (Below.one w7 _ (Nat.le_refl _))).grown (HOW.out.alloc _) hgrow
              have HR8 : Hid (RowI w w8 v' (ids ++ [1 + (q : Int)])) := RowI.of_append HL.out.symm hown
              clear hown hgrow HN7 HR7 HOW HB7
              obtain ⟨n2, hn2⟩ : ∃ n2, (ids ++ [1 + (q : Int)]).length = n2 := ⟨_, rfl⟩
              obtain ⟨a2, cap2, hv⟩ := HR8.out.form
              rw [hn2] at hv
              subst hv
              have hl2 : n2 ≤ 400 := by rw [← hn2, List.length_append, HL.out]; simp; omega
              have HL2 := Lib.hid hn2
              clear hn2
              go_wp2_with fail
              refine (len_is w _ p 0 (ids ++ [1 + (q : Int)]) HN8.out (n2 : Int) (by rw [HL2.out])).mono ?_
              rintro e w9 ⟨rfl, rfl⟩
              go_wp2_with fail
              go_roundw
              case rel => exact ⟨q + 1, ids ++ [1 + (q : Int)], by omega, by go_num, by rw [HL2.out]; omega, HN8.out, HR8.out⟩
              case measure => simp [intOf]; omega
            · have hroom : ¬ (n : Int) < 400 := by omega
              go_wp2_with fail
              refine (inv_send_full w _ p 0 ids HA6.out (by rw [HL.out]; omega) 2 0 0 (1 + (q : Int)) 0 none none 0 0 0).mono ?_
              rintro e w7 ⟨rfl, hn, ht⟩
              have HN7 := Lib.hid hn
              have HR7 := Lib.hid (HR6.out.typed ht)
              clear hn ht HA6 HR6
              go_wp2_with fail
              refine (len_is w _ p 0 ids HN7.out (n : Int) (by rw [HL.out])).mono ?_
              rintro e w9 ⟨rfl, rfl⟩
              go_wp2_with fail
              go_roundw
              case rel => exact ⟨q + 1, ids, by omega, by go_num, by rw [HL.out]; exact hl4, HN7.out, HR7.out⟩
              case measure => simp [intOf]; omega
        · as_aux_lemma =>
            have HS : Hid (placeI kd 5 = (1 : Int)) := hsv
            clear hsv
            go_wp2_with fail
            refine (place_is _ _ _ HS.out (by omega) (by omega) _).mono ?_
            rintro e w3 ⟨rfl, rfl⟩
            have HA6 := Lib.hid (HA.out.keep (Below.one wr (.cells #[.int .i64 kd, .int .i64 (j : Int)] 27) (Nat.le_refl _)))
            have HR6 := Lib.hid (HR.out.below (Below.one wr (.cells #[.int .i64 kd, .int .i64 (j : Int)] 27) (Nat.le_refl _)))
            have HO6 : Hid (BoxO (wr.alloc (.cells #[.int .i64 kd, .int .i64 (j : Int)] 27)) wr.heap.size kd (j : Int)) := (MapKept.heap_alloc wr _).1
            clear HA HR hc0 hc1
            by_cases hnr : n < 400
            · have hroom : (n : Int) < 400 := by omega
              go_wp2_with fail
              refine (inv_send w _ p 0 ids HA6.out (by rw [HL.out]; omega) 2 0 0 (1 + (q : Int)) 0 none none 0 0 (noKeys _)).mono ?_
              rintro e w7 ⟨rfl, hn, ht⟩
              have HN7 := Lib.hid hn
              have HR7 := Lib.hid (HR6.out.typed ht)
              clear hn ht HA6 HR6
              have HOW : Hid (w7.ownsRow w.heap.size 3 1 (.slice (some ⟨g, 0, none⟩) n cap) n (numsV ids)) := by have h0 := HR7.out; unfold RowI at h0; rw [HL.out] at h0; exact h0
              have HB7 : Hid (w.heap.size ≤ w7.heap.size) := HN7.out.2.1.size
              go_wp2_with (first | (at_builtin; refine wpList_append_own _ rfl _ _ 25 rfl w.heap.size 3 i0 (.int .i64 0) 1 8 Try.underlying25 HI0.out HI1.out HI2.out HI3.out rfl (by decide) _ _ _ rfl (HOW.out.alloc _) ⟨w7.heap.size, 0, none⟩ 1 1 [.int .i64 (1 + (q : Int))] rfl rfl ?c1 ?c2 ?c3 ?c4 ?c5 ?_))
              case c1 => exact cell_one_new _ _ _
              case c2 => intro u hu; simp at hu; subst hu; rfl
              case c3 => unfold maxLen; omega
              case c4 => omega
              case c5 => have := HB7.out; simp; omega
              intro v' w8 hown hgrow _
              have HN8 : Hid (NetInv w w8 p 0 (ids ++ [1 + (q : Int)])) := (HN7.out.keep (Below.one w7 _ (Nat.le_refl _))).grown (HOW.out.alloc _) hgrow
              have HR8 : Hid (RowI w w8 v' (ids ++ [1 + (q : Int)])) := RowI.of_append HL.out.symm hown
              clear hown hgrow HN7 HR7 HOW HB7
              obtain ⟨n2, hn2⟩ : ∃ n2, (ids ++ [1 + (q : Int)]).length = n2 := ⟨_, rfl⟩
              obtain ⟨a2, cap2, hv⟩ := HR8.out.form
              rw [hn2] at hv
              subst hv
              have hl2 : n2 ≤ 400 := by rw [← hn2, List.length_append, HL.out]; simp; omega
              have HL2 := Lib.hid hn2
              clear hn2
              go_wp2_with fail
              refine (len_is w _ p 0 (ids ++ [1 + (q : Int)]) HN8.out (n2 : Int) (by rw [HL2.out])).mono ?_
              rintro e w9 ⟨rfl, rfl⟩
              go_wp2_with fail
              go_roundw
              case rel => exact ⟨q + 1, ids ++ [1 + (q : Int)], by omega, by go_num, by rw [HL2.out]; omega, HN8.out, HR8.out⟩
              case measure => simp [intOf]; omega
            · have hroom : ¬ (n : Int) < 400 := by omega
              go_wp2_with fail
              refine (inv_send_full w _ p 0 ids HA6.out (by rw [HL.out]; omega) 2 0 0 (1 + (q : Int)) 0 none none 0 0 0).mono ?_
              rintro e w7 ⟨rfl, hn, ht⟩
              have HN7 := Lib.hid hn
              have HR7 := Lib.hid (HR6.out.typed ht)
              clear hn ht HA6 HR6
              go_wp2_with fail
              refine (len_is w _ p 0 ids HN7.out (n : Int) (by rw [HL.out])).mono ?_
              rintro e w9 ⟨rfl, rfl⟩
              go_wp2_with fail
              go_roundw
              case rel => exact ⟨q + 1, ids, by omega, by go_num, by rw [HL.out]; exact hl4, HN7.out, HR7.out⟩
              case measure => simp [intOf]; omega
        · as_aux_lemma =>
            have HS : Hid (placeI kd 5 = (2 : Int)) := hsv
            clear hsv
            go_wp2_with fail
            refine (place_is _ _ _ HS.out (by omega) (by omega) _).mono ?_
            rintro e w3 ⟨rfl, rfl⟩
            have HA6 := Lib.hid (HA.out.keep (Below.one wr (.cells #[.int .i64 kd, .int .i64 (j : Int)] 27) (Nat.le_refl _)))
            have HR6 := Lib.hid (HR.out.below (Below.one wr (.cells #[.int .i64 kd, .int .i64 (j : Int)] 27) (Nat.le_refl _)))
            have HO6 : Hid (BoxO (wr.alloc (.cells #[.int .i64 kd, .int .i64 (j : Int)] 27)) wr.heap.size kd (j : Int)) := (MapKept.heap_alloc wr _).1
            clear HA HR hc0 hc1
            go_wp2_with fail
            refine (inv_take w _ p 0 ids HA6.out (by rw [HL.out]; omega) j (by rw [HL.out]; exact hj) id (List.getElem_eq_iff _ |>.2 HID.out)).mono ?_
            rintro e w7 ⟨k1, f1, t1, n1, b1, q1, ka, kc, rfl, hn, ht⟩
            have hr7 := HR6.out.typed ht
            obtain ⟨g', cap', hv, -, hgl, hgc⟩ := hr7.has (by rw [HL.out]; omega)
            simp only [Value.slice.injEq, Option.some.injEq, Addr.mk.injEq] at hv
            obtain ⟨⟨rfl, -⟩, -⟩ := hv
            have hcj := hgc j id HID.out
            have ho7 := HO6.out.typed ht
            have hob := ho7.cell
            have hobl : wr.heap.size < w7.heap.size := lt_of_block ho7
            have HN7 := Lib.hid (hn.keep (Below.one w7 (.cells #[.int .i64 k1, .int .i64 f1, .int .i64 t1, .int .i64 id, .slice b1 0 q1, .slice ka 0 kc, .int .i64 n1] 32) (Nat.le_refl _)))
            have HR7 := Lib.hid (hr7.below (Below.one w7 (.cells #[.int .i64 k1, .int .i64 f1, .int .i64 t1, .int .i64 id, .slice b1 0 q1, .slice ka 0 kc, .int .i64 n1] 32) (Nat.le_refl _)))
            have HO7 := Lib.hid (ho7.below (Below.one w7 (.cells #[.int .i64 k1, .int .i64 f1, .int .i64 t1, .int .i64 id, .slice b1 0 q1, .slice ka 0 kc, .int .i64 n1] 32) (Nat.le_refl _)))
            clear hn ht hr7 hgc HA6 HR6 HO6 ho7
            go_wp2_with fail
            go_quiet (fail)
            go_wp2_with fail
            generalize w7.alloc _ = W7 at *
            generalize hW8 : W7.drewN _ = W8
            have hB8 : Below W7.heap.size W7 W8 := by rw [← hW8]; exact ⟨rfl, rfl, rfl, Nat.le_refl _, fun _ _ => rfl⟩
            have HN8 := Lib.hid (HN7.out.keep hB8)
            have HR8 := Lib.hid (HR7.out.below hB8)
            have HO8 := Lib.hid (HO7.out.below hB8)
            have hob8 : W8.cell? ⟨wr.heap.size, 1, none⟩ = some (.int .i64 (j : Int)) := HO8.out.cell
            clear hW8 hB8 HN7 HR7 HO7 hcj hob hobl
            have hsh := fun W => slice25_h g n cap j (by omega) W
            obtain ⟨o, ho, hsl'⟩ := slice25_l g n cap (j + 1) (by omega)
            have hsl : ∀ W, (Instr.slice 25 (.slice (some ⟨g, 0, none⟩) n cap) (some (.int .i64 ((j : Int) + 1))) none none).run Try.prog W = .ok (.slice (some ⟨g, o, none⟩) (n - (j + 1)) (cap - (j + 1))) W := fun W => hsl' W
            have hwr : IntKind.i64.wrap ((j : Int) + 1) = (j : Int) + 1 := IntWalk.i64_in _ (by omega)
            have HOO := Lib.hid ho
            clear hsl' ho
            have HB8 := Lib.hid HN8.out.2.1.size
            go_region_law (first | (refine step_append_own (by rfl) _ _ _ (by rfl) w.heap.size 3 i0 (.int .i64 0) 1 8 Try.underlying25 HI0.out HI1.out HI2.out HI3.out (by rfl) (by omega) (.slice none 0 0) 0 [] (by simp [Act.eval, Act.put]) (World.ownsRow_nil _ _ _ _) ⟨g, 0, none⟩ j cap (numsV (ids.take j)) (by simp [Act.eval, Act.put]) (by rw [numsV_length, List.length_take, HL.out]; omega) (news_front HR8.out HL.out ((Below.refl _ _).drew) j hj) (numsV_ones _) (by unfold maxLen; omega) (by omega) HB8.out ?_; intro v1 w9 hown1 hg1; have HOW1 := Lib.hid hown1; have HG1 : Hid (W8.drew.grownBy w9 none) := hg1; have hob9 : w9.cell? ⟨wr.heap.size, 1, none⟩ = some (.int .i64 (j : Int)) := ((show BoxO W8.drew wr.heap.size kd (j : Int) from HO8.out).grown (World.ownsRow_nil W8.drew w.heap.size 3 1) HG1.out).cell; clear hown1 hg1) | (refine step_append_own (by rfl) _ _ _ (by rfl) w.heap.size 3 i0 (.int .i64 0) 1 8 Try.underlying25 HI0.out HI1.out HI2.out HI3.out (by rfl) (by omega) v1 (0 + j) ([] ++ numsV (ids.take j)) (by simp [Act.eval, Act.put]) HOW1.out ⟨g, o, none⟩ (n - (j + 1)) (cap - (j + 1)) (numsV (ids.drop (j + 1))) (by simp [Act.eval, Act.put]) (by rw [numsV_length, List.length_drop, HL.out]; omega) (news_back HR8.out HL.out (((Below.refl _ _).drew).grown HG1.out (Nat.le_refl _) (fun k hk => by cases hk)) j hj HOO.out) (numsV_ones _) (by unfold maxLen; omega) (by omega) (Nat.le_trans HB8.out HG1.out.size) ?_; intro v2 w10 hown2 hg2; have HR9 := Lib.hid (row_taken hown2 HL.out hj); have HN9 := Lib.hid (((HN8.out.keep ((Below.refl _ _).drew)).grown (World.ownsRow_nil _ _ _ _) HG1.out).grown HOW1.out hg2); have hob10 : w10.cell? ⟨wr.heap.size, 1, none⟩ = some (.int .i64 (j : Int)) := (((show BoxO W8.drew wr.heap.size kd (j : Int) from HO8.out).grown (World.ownsRow_nil W8.drew w.heap.size 3 1) HG1.out).grown HOW1.out hg2).cell; clear hown2 hg2))
            all_goals
              have HL9 : Hid ((ids.take j ++ ids.drop (j + 1)).length = n - 1) := by have h9 := taken_length ids j (by rw [HL.out]; exact hj); rw [HL.out] at h9; exact h9
              obtain ⟨n2, hn2⟩ : ∃ n2, (ids.take j ++ ids.drop (j + 1)).length = n2 := ⟨_, rfl⟩
              obtain ⟨a2, cap2, hv⟩ := HR9.out.form
              rw [hn2] at hv
              subst hv
              have hl2 : n2 ≤ 400 := by rw [← hn2, HL9.out]; omega
              have HL2 := Lib.hid hn2
              clear HN8 HR8 HO8 HB8 HOO hsl hsh hwr HL9 hn2
              go_wp2_with fail
              refine (len_is w _ p 0 (ids.take j ++ ids.drop (j + 1)) HN9.out (n2 : Int) (by rw [HL2.out])).mono ?_
              rintro e w11 ⟨rfl, rfl⟩
              go_wp2_with fail
              go_roundw
              case rel => exact ⟨q + 1, ids.take j ++ ids.drop (j + 1), by omega, by go_num, by rw [HL2.out]; omega, HN9.out, HR9.out⟩
              case measure => simp [intOf]; omega
        · as_aux_lemma =>
            have HS : Hid (placeI kd 5 = (3 : Int)) := hsv
            clear hsv
            go_wp2_with fail
            refine (place_is _ _ _ HS.out (by omega) (by omega) _).mono ?_
            rintro e w3 ⟨rfl, rfl⟩
            have HA6 := Lib.hid (HA.out.keep (Below.one wr (.cells #[.int .i64 kd, .int .i64 (j : Int)] 27) (Nat.le_refl _)))
            have HR6 := Lib.hid (HR.out.below (Below.one wr (.cells #[.int .i64 kd, .int .i64 (j : Int)] 27) (Nat.le_refl _)))
            have HO6 : Hid (BoxO (wr.alloc (.cells #[.int .i64 kd, .int .i64 (j : Int)] 27)) wr.heap.size kd (j : Int)) := (MapKept.heap_alloc wr _).1
            clear HA HR hc0 hc1
            by_cases hnr : n < 400
            · have hroom : (n : Int) < 400 := by omega
              go_wp2_with fail
              refine (inv_twice w _ p 0 ids HA6.out j (by rw [HL.out]; exact hj) (by rw [HL.out]; omega) id (List.getElem_eq_iff _ |>.2 HID.out)).mono ?_
              rintro e w7 ⟨rfl, hn, ht⟩
              have hr7 := HR6.out.typed ht
              obtain ⟨g', cap', hv, -, hgl, hgc⟩ := hr7.has (by rw [HL.out]; omega)
              simp only [Value.slice.injEq, Option.some.injEq, Addr.mk.injEq] at hv
              obtain ⟨⟨rfl, -⟩, -⟩ := hv
              have hcj := hgc j id HID.out
              have ho7 := HO6.out.typed ht
              have hob := ho7.cell
              have hobl : wr.heap.size < w7.heap.size := lt_of_block ho7
              have HN7 := Lib.hid hn
              have HR7 := Lib.hid hr7
              clear hn ht hr7 hgc HA6 HR6 HO6 ho7
              have HOW : Hid (w7.ownsRow w.heap.size 3 1 (.slice (some ⟨g, 0, none⟩) n cap) n (numsV ids)) := by have h0 := HR7.out; unfold RowI at h0; rw [HL.out] at h0; exact h0
              have HB7 : Hid (w.heap.size ≤ w7.heap.size) := HN7.out.2.1.size
              go_wp2_with (first | (at_builtin; refine wpList_append_own _ rfl _ _ 25 rfl w.heap.size 3 i0 (.int .i64 0) 1 8 Try.underlying25 HI0.out HI1.out HI2.out HI3.out rfl (by decide) _ _ _ rfl (HOW.out.alloc _) ⟨w7.heap.size, 0, none⟩ 1 1 [.int .i64 (id)] rfl rfl ?c1 ?c2 ?c3 ?c4 ?c5 ?_))
              case c1 => exact cell_one_new _ _ _
              case c2 => intro u hu; simp at hu; subst hu; rfl
              case c3 => unfold maxLen; omega
              case c4 => omega
              case c5 => have := HB7.out; simp; omega
              intro v' w8 hown hgrow _
              have HN8 : Hid (NetInv w w8 p 0 (ids ++ [id])) := (HN7.out.keep (Below.one w7 _ (Nat.le_refl _))).grown (HOW.out.alloc _) hgrow
              have HR8 : Hid (RowI w w8 v' (ids ++ [id])) := RowI.of_append HL.out.symm hown
              clear hown hgrow HN7 HR7 HOW HB7
              obtain ⟨n2, hn2⟩ : ∃ n2, (ids ++ [id]).length = n2 := ⟨_, rfl⟩
              obtain ⟨a2, cap2, hv⟩ := HR8.out.form
              rw [hn2] at hv
              subst hv
              have hl2 : n2 ≤ 400 := by rw [← hn2, List.length_append, HL.out]; simp; omega
              have HL2 := Lib.hid hn2
              clear hn2
              go_wp2_with fail
              refine (len_is w _ p 0 (ids ++ [id]) HN8.out (n2 : Int) (by rw [HL2.out])).mono ?_
              rintro e w9 ⟨rfl, rfl⟩
              go_wp2_with fail
              go_roundw
              case rel => exact ⟨q + 1, ids ++ [id], by omega, by go_num, by rw [HL2.out]; omega, HN8.out, HR8.out⟩
              case measure => simp [intOf]; omega
            · have hroom : ¬ (n : Int) < 400 := by omega
              go_wp2_with fail
              refine (inv_twice_full w _ p 0 ids HA6.out j (by rw [HL.out]; exact hj) (by rw [HL.out]; omega)).mono ?_
              rintro e w7 ⟨rfl, hn, ht⟩
              have HN7 := Lib.hid hn
              have HR7 := Lib.hid (HR6.out.typed ht)
              clear hn ht HA6 HR6 HO6
              go_wp2_with fail
              refine (len_is w _ p 0 ids HN7.out (n : Int) (by rw [HL.out])).mono ?_
              rintro e w9 ⟨rfl, rfl⟩
              go_wp2_with fail
              go_roundw
              case rel => exact ⟨q + 1, ids, by omega, by go_num, by rw [HL.out]; exact hl4, HN7.out, HR7.out⟩
              case measure => simp [intOf]; omega
        · as_aux_lemma =>
            have HS : Hid (placeI kd 5 = (4 : Int)) := hsv
            clear hsv
            go_wp2_with fail
            refine (place_is _ _ _ HS.out (by omega) (by omega) _).mono ?_
            rintro e w3 ⟨rfl, rfl⟩
            have HA6 := Lib.hid (HA.out.keep (Below.one wr (.cells #[.int .i64 kd, .int .i64 (j : Int)] 27) (Nat.le_refl _)))
            have HR6 := Lib.hid (HR.out.below (Below.one wr (.cells #[.int .i64 kd, .int .i64 (j : Int)] 27) (Nat.le_refl _)))
            have HO6 : Hid (BoxO (wr.alloc (.cells #[.int .i64 kd, .int .i64 (j : Int)] 27)) wr.heap.size kd (j : Int)) := (MapKept.heap_alloc wr _).1
            clear HA HR hc0 hc1
            go_wp2_with fail
            refine (inv_at w _ p 0 ids HA6.out j (by rw [HL.out]; exact hj) id (List.getElem_eq_iff _ |>.2 HID.out)).mono ?_
            rintro e w7 ⟨k1, f1, t1, n1, b1, q1, ka, kc, rfl, hn, ht⟩
            have hr7 := HR6.out.typed ht
            obtain ⟨g', cap', hv, -, hgl, hgc⟩ := hr7.has (by rw [HL.out]; omega)
            simp only [Value.slice.injEq, Option.some.injEq, Addr.mk.injEq] at hv
            obtain ⟨⟨rfl, -⟩, -⟩ := hv
            have hcj := hgc j id HID.out
            have ho7 := HO6.out.typed ht
            have hob := ho7.cell
            have hobl : wr.heap.size < w7.heap.size := lt_of_block ho7
            have HN7 := Lib.hid (hn.keep (Below.one w7 (.cells #[.int .i64 k1, .int .i64 f1, .int .i64 t1, .int .i64 id, .slice b1 0 q1, .slice ka 0 kc, .int .i64 n1] 32) (Nat.le_refl _)))
            have HR7 := Lib.hid (hr7.below (Below.one w7 (.cells #[.int .i64 k1, .int .i64 f1, .int .i64 t1, .int .i64 id, .slice b1 0 q1, .slice ka 0 kc, .int .i64 n1] 32) (Nat.le_refl _)))
            clear hn ht hr7 hgc HA6 HR6 HO6 ho7
            go_wp2_with fail
            go_quiet (fail)
            go_wp2_with fail
            generalize w7.alloc _ = W7 at *
            generalize hW8 : W7.drewN _ = W8
            have hB8 : Below W7.heap.size W7 W8 := by rw [← hW8]; exact ⟨rfl, rfl, rfl, Nat.le_refl _, fun _ _ => rfl⟩
            have HN9 := Lib.hid (HN7.out.keep hB8)
            have HR9 := Lib.hid (HR7.out.below hB8)
            clear hW8 hB8 HN7 HR7
            refine (len_is w _ p 0 ids HN9.out (n : Int) (by rw [HL.out])).mono ?_
            rintro e w9 ⟨rfl, rfl⟩
            go_wp2_with fail
            go_roundw
            case rel => exact ⟨q + 1, ids, by omega, by go_num, by rw [HL.out]; exact hl4, HN9.out, HR9.out⟩
            case measure => simp [intOf]; omega
      · obtain ⟨s, hs, hsv⟩ := place_nat kd 5 (by omega)
        have hs5 : s = 0 ∨ s = 1 ∨ s = 2 ∨ s = 3 ∨ s = 4 := by omega
        rcases hs5 with rfl | rfl | rfl | rfl | rfl
        · as_aux_lemma =>
            have HS : Hid (placeI kd 5 = (0 : Int)) := hsv
            clear hsv
            go_wp2_with fail
            refine (place_is _ _ _ HS.out (by omega) (by omega) _).mono ?_
            rintro e w3 ⟨rfl, rfl⟩
            have HA6 := Lib.hid (HA.out.keep (Below.one wr (.cells #[.int .i64 kd, .int .i64 nn] 27) (Nat.le_refl _)))
            have HR6 := Lib.hid (HR.out.below (Below.one wr (.cells #[.int .i64 kd, .int .i64 nn] 27) (Nat.le_refl _)))
            have HO6 : Hid (BoxO (wr.alloc (.cells #[.int .i64 kd, .int .i64 nn] 27)) wr.heap.size kd nn) := (MapKept.heap_alloc wr _).1
            clear HA HR hc0 hc1
            by_cases hnr : n < 400
            · have hroom : (n : Int) < 400 := by omega
              go_wp2_with fail
              refine (inv_send w _ p 0 ids HA6.out (by rw [HL.out]; omega) 2 0 0 (1 + (q : Int)) 0 none none 0 0 (noKeys _)).mono ?_
              rintro e w7 ⟨rfl, hn, ht⟩
              have HN7 := Lib.hid hn
              have HR7 := Lib.hid (HR6.out.typed ht)
              clear hn ht HA6 HR6
              have HOW : Hid (w7.ownsRow w.heap.size 3 1 (.slice a n cap) n (numsV ids)) := by have h0 := HR7.out; unfold RowI at h0; rw [HL.out] at h0; exact h0
              have HB7 : Hid (w.heap.size ≤ w7.heap.size) := HN7.out.2.1.size
              go_wp2_with (first | (at_builtin; refine wpList_append_own _ rfl _ _ 25 rfl w.heap.size 3 i0 (.int .i64 0) 1 8 Try.underlying25 HI0.out HI1.out HI2.out HI3.out rfl (by decide) _ _ _ rfl (HOW.out.alloc _) ⟨w7.heap.size, 0, none⟩ 1 1 [.int .i64 (1 + (q : Int))] rfl rfl ?c1 ?c2 ?c3 ?c4 ?c5 ?_))
              case c1 => exact cell_one_new _ _ _
              case c2 => intro u hu; simp at hu; subst hu; rfl
              case c3 => unfold maxLen; omega
              case c4 => omega
              case c5 => have := HB7.out; simp; omega
              intro v' w8 hown hgrow _
              have HN8 : Hid (NetInv w w8 p 0 (ids ++ [1 + (q : Int)])) := (HN7.out.keep (Below.one w7 _ (Nat.le_refl _))).grown (HOW.out.alloc _) hgrow
              have HR8 : Hid (RowI w w8 v' (ids ++ [1 + (q : Int)])) := RowI.of_append HL.out.symm hown
              clear hown hgrow HN7 HR7 HOW HB7
              obtain ⟨n2, hn2⟩ : ∃ n2, (ids ++ [1 + (q : Int)]).length = n2 := ⟨_, rfl⟩
              obtain ⟨a2, cap2, hv⟩ := HR8.out.form
              rw [hn2] at hv
              subst hv
              have hl2 : n2 ≤ 400 := by rw [← hn2, List.length_append, HL.out]; simp; omega
              have HL2 := Lib.hid hn2
              clear hn2
              go_wp2_with fail
              refine (len_is w _ p 0 (ids ++ [1 + (q : Int)]) HN8.out (n2 : Int) (by rw [HL2.out])).mono ?_
              rintro e w9 ⟨rfl, rfl⟩
              go_wp2_with fail
              go_roundw
              case rel => exact ⟨q + 1, ids ++ [1 + (q : Int)], by omega, by go_num, by rw [HL2.out]; omega, HN8.out, HR8.out⟩
              case measure => simp [intOf]; omega
            · have hroom : ¬ (n : Int) < 400 := by omega
              go_wp2_with fail
              refine (inv_send_full w _ p 0 ids HA6.out (by rw [HL.out]; omega) 2 0 0 (1 + (q : Int)) 0 none none 0 0 0).mono ?_
              rintro e w7 ⟨rfl, hn, ht⟩
              have HN7 := Lib.hid hn
              have HR7 := Lib.hid (HR6.out.typed ht)
              clear hn ht HA6 HR6
              go_wp2_with fail
              refine (len_is w _ p 0 ids HN7.out (n : Int) (by rw [HL.out])).mono ?_
              rintro e w9 ⟨rfl, rfl⟩
              go_wp2_with fail
              go_roundw
              case rel => exact ⟨q + 1, ids, by omega, by go_num, by rw [HL.out]; exact hl4, HN7.out, HR7.out⟩
              case measure => simp [intOf]; omega
        · as_aux_lemma =>
            have HS : Hid (placeI kd 5 = (1 : Int)) := hsv
            clear hsv
            go_wp2_with fail
            refine (place_is _ _ _ HS.out (by omega) (by omega) _).mono ?_
            rintro e w3 ⟨rfl, rfl⟩
            have HA6 := Lib.hid (HA.out.keep (Below.one wr (.cells #[.int .i64 kd, .int .i64 nn] 27) (Nat.le_refl _)))
            have HR6 := Lib.hid (HR.out.below (Below.one wr (.cells #[.int .i64 kd, .int .i64 nn] 27) (Nat.le_refl _)))
            have HO6 : Hid (BoxO (wr.alloc (.cells #[.int .i64 kd, .int .i64 nn] 27)) wr.heap.size kd nn) := (MapKept.heap_alloc wr _).1
            clear HA HR hc0 hc1
            by_cases hnr : n < 400
            · have hroom : (n : Int) < 400 := by omega
              go_wp2_with fail
              refine (inv_send w _ p 0 ids HA6.out (by rw [HL.out]; omega) 2 0 0 (1 + (q : Int)) 0 none none 0 0 (noKeys _)).mono ?_
              rintro e w7 ⟨rfl, hn, ht⟩
              have HN7 := Lib.hid hn
              have HR7 := Lib.hid (HR6.out.typed ht)
              clear hn ht HA6 HR6
              have HOW : Hid (w7.ownsRow w.heap.size 3 1 (.slice a n cap) n (numsV ids)) := by have h0 := HR7.out; unfold RowI at h0; rw [HL.out] at h0; exact h0
              have HB7 : Hid (w.heap.size ≤ w7.heap.size) := HN7.out.2.1.size
              go_wp2_with (first | (at_builtin; refine wpList_append_own _ rfl _ _ 25 rfl w.heap.size 3 i0 (.int .i64 0) 1 8 Try.underlying25 HI0.out HI1.out HI2.out HI3.out rfl (by decide) _ _ _ rfl (HOW.out.alloc _) ⟨w7.heap.size, 0, none⟩ 1 1 [.int .i64 (1 + (q : Int))] rfl rfl ?c1 ?c2 ?c3 ?c4 ?c5 ?_))
              case c1 => exact cell_one_new _ _ _
              case c2 => intro u hu; simp at hu; subst hu; rfl
              case c3 => unfold maxLen; omega
              case c4 => omega
              case c5 => have := HB7.out; simp; omega
              intro v' w8 hown hgrow _
              have HN8 : Hid (NetInv w w8 p 0 (ids ++ [1 + (q : Int)])) := (HN7.out.keep (Below.one w7 _ (Nat.le_refl _))).grown (HOW.out.alloc _) hgrow
              have HR8 : Hid (RowI w w8 v' (ids ++ [1 + (q : Int)])) := RowI.of_append HL.out.symm hown
              clear hown hgrow HN7 HR7 HOW HB7
              obtain ⟨n2, hn2⟩ : ∃ n2, (ids ++ [1 + (q : Int)]).length = n2 := ⟨_, rfl⟩
              obtain ⟨a2, cap2, hv⟩ := HR8.out.form
              rw [hn2] at hv
              subst hv
              have hl2 : n2 ≤ 400 := by rw [← hn2, List.length_append, HL.out]; simp; omega
              have HL2 := Lib.hid hn2
              clear hn2
              go_wp2_with fail
              refine (len_is w _ p 0 (ids ++ [1 + (q : Int)]) HN8.out (n2 : Int) (by rw [HL2.out])).mono ?_
              rintro e w9 ⟨rfl, rfl⟩
              go_wp2_with fail
              go_roundw
              case rel => exact ⟨q + 1, ids ++ [1 + (q : Int)], by omega, by go_num, by rw [HL2.out]; omega, HN8.out, HR8.out⟩
              case measure => simp [intOf]; omega
            · have hroom : ¬ (n : Int) < 400 := by omega
              go_wp2_with fail
              refine (inv_send_full w _ p 0 ids HA6.out (by rw [HL.out]; omega) 2 0 0 (1 + (q : Int)) 0 none none 0 0 0).mono ?_
              rintro e w7 ⟨rfl, hn, ht⟩
              have HN7 := Lib.hid hn
              have HR7 := Lib.hid (HR6.out.typed ht)
              clear hn ht HA6 HR6
              go_wp2_with fail
              refine (len_is w _ p 0 ids HN7.out (n : Int) (by rw [HL.out])).mono ?_
              rintro e w9 ⟨rfl, rfl⟩
              go_wp2_with fail
              go_roundw
              case rel => exact ⟨q + 1, ids, by omega, by go_num, by rw [HL.out]; exact hl4, HN7.out, HR7.out⟩
              case measure => simp [intOf]; omega
        · as_aux_lemma =>
            have HS : Hid (placeI kd 5 = (2 : Int)) := hsv
            clear hsv
            go_wp2_with fail
            refine (place_is _ _ _ HS.out (by omega) (by omega) _).mono ?_
            rintro e w3 ⟨rfl, rfl⟩
            have HA6 := Lib.hid (HA.out.keep (Below.one wr (.cells #[.int .i64 kd, .int .i64 nn] 27) (Nat.le_refl _)))
            have HR6 := Lib.hid (HR.out.below (Below.one wr (.cells #[.int .i64 kd, .int .i64 nn] 27) (Nat.le_refl _)))
            have HO6 : Hid (BoxO (wr.alloc (.cells #[.int .i64 kd, .int .i64 nn] 27)) wr.heap.size kd nn) := (MapKept.heap_alloc wr _).1
            clear HA HR hc0 hc1
            go_wp2_with fail
            refine (inv_take_no w _ p 0 ids HA6.out nn (by rw [HL.out]; omega)).mono ?_
            rintro e w7 ⟨rfl, hn, hb⟩
            unfold noMsg
            have hr7 := HR6.out.typed (Typed.below hb)
            have HN7 := Lib.hid (hn.keep (Below.one w7 (.cells #[.int .i64 0, .int .i64 0, .int .i64 0, .int .i64 0, .slice none 0 0, .slice none 0 0, .int .i64 0] 32) (Nat.le_refl _)))
            have HR7 := Lib.hid (hr7.below (Below.one w7 (.cells #[.int .i64 0, .int .i64 0, .int .i64 0, .int .i64 0, .slice none 0 0, .slice none 0 0, .int .i64 0] 32) (Nat.le_refl _)))
            have ho7 := HO6.out.typed (Typed.below hb)
            have hob := ho7.cell
            have hobl : wr.heap.size < w7.heap.size := lt_of_block ho7
            clear hn hb hr7 ho7 HA6 HR6 HO6
            go_wp2_with fail
            go_quiet (fail)
            go_wp2_with fail
            generalize w7.alloc _ = W7 at *
            generalize hW8 : W7.drewN _ = W8
            have hB8 : Below W7.heap.size W7 W8 := by rw [← hW8]; exact ⟨rfl, rfl, rfl, Nat.le_refl _, fun _ _ => rfl⟩
            have HN9 := Lib.hid (HN7.out.keep hB8)
            have HR9 := Lib.hid (HR7.out.below hB8)
            clear hW8 hB8 HN7 HR7
            refine (len_is w _ p 0 ids HN9.out (n : Int) (by rw [HL.out])).mono ?_
            rintro e w9 ⟨rfl, rfl⟩
            go_wp2_with fail
            go_roundw
            case rel => exact ⟨q + 1, ids, by omega, by go_num, by rw [HL.out]; exact hl4, HN9.out, HR9.out⟩
            case measure => simp [intOf]; omega
        · as_aux_lemma =>
            have HS : Hid (placeI kd 5 = (3 : Int)) := hsv
            clear hsv
            go_wp2_with fail
            refine (place_is _ _ _ HS.out (by omega) (by omega) _).mono ?_
            rintro e w3 ⟨rfl, rfl⟩
            have HA6 := Lib.hid (HA.out.keep (Below.one wr (.cells #[.int .i64 kd, .int .i64 nn] 27) (Nat.le_refl _)))
            have HR6 := Lib.hid (HR.out.below (Below.one wr (.cells #[.int .i64 kd, .int .i64 nn] 27) (Nat.le_refl _)))
            have HO6 : Hid (BoxO (wr.alloc (.cells #[.int .i64 kd, .int .i64 nn] 27)) wr.heap.size kd nn) := (MapKept.heap_alloc wr _).1
            clear HA HR hc0 hc1
            go_wp2_with fail
            refine (inv_twice_no w _ p 0 ids HA6.out nn (by rw [HL.out]; omega)).mono ?_
            rintro e w7 ⟨rfl, hn, ht⟩
            have HN7 := Lib.hid hn
            have HR7 := Lib.hid (HR6.out.typed ht)
            clear hn ht HA6 HR6 HO6
            go_wp2_with fail
            refine (len_is w _ p 0 ids HN7.out (n : Int) (by rw [HL.out])).mono ?_
            rintro e w9 ⟨rfl, rfl⟩
            go_wp2_with fail
            go_roundw
            case rel => exact ⟨q + 1, ids, by omega, by go_num, by rw [HL.out]; exact hl4, HN7.out, HR7.out⟩
            case measure => simp [intOf]; omega
        · as_aux_lemma =>
            have HS : Hid (placeI kd 5 = (4 : Int)) := hsv
            clear hsv
            go_wp2_with fail
            refine (place_is _ _ _ HS.out (by omega) (by omega) _).mono ?_
            rintro e w3 ⟨rfl, rfl⟩
            have HA6 := Lib.hid (HA.out.keep (Below.one wr (.cells #[.int .i64 kd, .int .i64 nn] 27) (Nat.le_refl _)))
            have HR6 := Lib.hid (HR.out.below (Below.one wr (.cells #[.int .i64 kd, .int .i64 nn] 27) (Nat.le_refl _)))
            have HO6 : Hid (BoxO (wr.alloc (.cells #[.int .i64 kd, .int .i64 nn] 27)) wr.heap.size kd nn) := (MapKept.heap_alloc wr _).1
            clear HA HR hc0 hc1
            go_wp2_with fail
            refine (inv_at_no w _ p 0 ids HA6.out nn (by rw [HL.out]; omega)).mono ?_
            rintro e w7 ⟨rfl, hn, hb⟩
            unfold noMsg
            have hr7 := HR6.out.typed hb
            have HN7 := Lib.hid (hn.keep (Below.one w7 (.cells #[.int .i64 0, .int .i64 0, .int .i64 0, .int .i64 0, .slice none 0 0, .slice none 0 0, .int .i64 0] 32) (Nat.le_refl _)))
            have HR7 := Lib.hid (hr7.below (Below.one w7 (.cells #[.int .i64 0, .int .i64 0, .int .i64 0, .int .i64 0, .slice none 0 0, .slice none 0 0, .int .i64 0] 32) (Nat.le_refl _)))
            have ho7 := HO6.out.typed hb
            have hob := ho7.cell
            have hobl : wr.heap.size < w7.heap.size := lt_of_block ho7
            clear hn hb hr7 ho7 HA6 HR6 HO6
            go_wp2_with fail
            go_quiet (fail)
            go_wp2_with fail
            generalize w7.alloc _ = W7 at *
            generalize hW8 : W7.drewN _ = W8
            have hB8 : Below W7.heap.size W7 W8 := by rw [← hW8]; exact ⟨rfl, rfl, rfl, Nat.le_refl _, fun _ _ => rfl⟩
            have HN9 := Lib.hid (HN7.out.keep hB8)
            have HR9 := Lib.hid (HR7.out.below hB8)
            clear hW8 hB8 HN7 HR7
            refine (len_is w _ p 0 ids HN9.out (n : Int) (by rw [HL.out])).mono ?_
            rintro e w9 ⟨rfl, rfl⟩
            go_wp2_with fail
            go_roundw
            case rel => exact ⟨q + 1, ids, by omega, by go_num, by rw [HL.out]; exact hl4, HN9.out, HR9.out⟩
            case measure => simp [intOf]; omega
      · obtain ⟨s, hs, hsv⟩ := place_nat kd 5 (by omega)
        have hs5 : s = 0 ∨ s = 1 ∨ s = 2 ∨ s = 3 ∨ s = 4 := by omega
        rcases hs5 with rfl | rfl | rfl | rfl | rfl
        · as_aux_lemma =>
            have HS : Hid (placeI kd 5 = (0 : Int)) := hsv
            clear hsv
            go_wp2_with fail
            refine (place_is _ _ _ HS.out (by omega) (by omega) _).mono ?_
            rintro e w3 ⟨rfl, rfl⟩
            have HA6 := Lib.hid (HA.out.keep (Below.one wr (.cells #[.int .i64 kd, .int .i64 nn] 27) (Nat.le_refl _)))
            have HR6 := Lib.hid (HR.out.below (Below.one wr (.cells #[.int .i64 kd, .int .i64 nn] 27) (Nat.le_refl _)))
            have HO6 : Hid (BoxO (wr.alloc (.cells #[.int .i64 kd, .int .i64 nn] 27)) wr.heap.size kd nn) := (MapKept.heap_alloc wr _).1
            clear HA HR hc0 hc1
            by_cases hnr : n < 400
            · have hroom : (n : Int) < 400 := by omega
              go_wp2_with fail
              refine (inv_send w _ p 0 ids HA6.out (by rw [HL.out]; omega) 2 0 0 (1 + (q : Int)) 0 none none 0 0 (noKeys _)).mono ?_
              rintro e w7 ⟨rfl, hn, ht⟩
              have HN7 := Lib.hid hn
              have HR7 := Lib.hid (HR6.out.typed ht)
              clear hn ht HA6 HR6
              have HOW : Hid (w7.ownsRow w.heap.size 3 1 (.slice a n cap) n (numsV ids)) := by have h0 := HR7.out; unfold RowI at h0; rw [HL.out] at h0; exact h0
              have HB7 : Hid (w.heap.size ≤ w7.heap.size) := HN7.out.2.1.size
              go_wp2_with (first | (at_builtin; refine wpList_append_own _ rfl _ _ 25 rfl w.heap.size 3 i0 (.int .i64 0) 1 8 Try.underlying25 HI0.out HI1.out HI2.out HI3.out rfl (by decide) _ _ _ rfl (HOW.out.alloc _) ⟨w7.heap.size, 0, none⟩ 1 1 [.int .i64 (1 + (q : Int))] rfl rfl ?c1 ?c2 ?c3 ?c4 ?c5 ?_))
              case c1 => exact cell_one_new _ _ _
              case c2 => intro u hu; simp at hu; subst hu; rfl
              case c3 => unfold maxLen; omega
              case c4 => omega
              case c5 => have := HB7.out; simp; omega
              intro v' w8 hown hgrow _
              have HN8 : Hid (NetInv w w8 p 0 (ids ++ [1 + (q : Int)])) := (HN7.out.keep (Below.one w7 _ (Nat.le_refl _))).grown (HOW.out.alloc _) hgrow
              have HR8 : Hid (RowI w w8 v' (ids ++ [1 + (q : Int)])) := RowI.of_append HL.out.symm hown
              clear hown hgrow HN7 HR7 HOW HB7
              obtain ⟨n2, hn2⟩ : ∃ n2, (ids ++ [1 + (q : Int)]).length = n2 := ⟨_, rfl⟩
              obtain ⟨a2, cap2, hv⟩ := HR8.out.form
              rw [hn2] at hv
              subst hv
              have hl2 : n2 ≤ 400 := by rw [← hn2, List.length_append, HL.out]; simp; omega
              have HL2 := Lib.hid hn2
              clear hn2
              go_wp2_with fail
              refine (len_is w _ p 0 (ids ++ [1 + (q : Int)]) HN8.out (n2 : Int) (by rw [HL2.out])).mono ?_
              rintro e w9 ⟨rfl, rfl⟩
              go_wp2_with fail
              go_roundw
              case rel => exact ⟨q + 1, ids ++ [1 + (q : Int)], by omega, by go_num, by rw [HL2.out]; omega, HN8.out, HR8.out⟩
              case measure => simp [intOf]; omega
            · have hroom : ¬ (n : Int) < 400 := by omega
              go_wp2_with fail
              refine (inv_send_full w _ p 0 ids HA6.out (by rw [HL.out]; omega) 2 0 0 (1 + (q : Int)) 0 none none 0 0 0).mono ?_
              rintro e w7 ⟨rfl, hn, ht⟩
              have HN7 := Lib.hid hn
              have HR7 := Lib.hid (HR6.out.typed ht)
              clear hn ht HA6 HR6
              go_wp2_with fail
              refine (len_is w _ p 0 ids HN7.out (n : Int) (by rw [HL.out])).mono ?_
              rintro e w9 ⟨rfl, rfl⟩
              go_wp2_with fail
              go_roundw
              case rel => exact ⟨q + 1, ids, by omega, by go_num, by rw [HL.out]; exact hl4, HN7.out, HR7.out⟩
              case measure => simp [intOf]; omega
        · as_aux_lemma =>
            have HS : Hid (placeI kd 5 = (1 : Int)) := hsv
            clear hsv
            go_wp2_with fail
            refine (place_is _ _ _ HS.out (by omega) (by omega) _).mono ?_
            rintro e w3 ⟨rfl, rfl⟩
            have HA6 := Lib.hid (HA.out.keep (Below.one wr (.cells #[.int .i64 kd, .int .i64 nn] 27) (Nat.le_refl _)))
            have HR6 := Lib.hid (HR.out.below (Below.one wr (.cells #[.int .i64 kd, .int .i64 nn] 27) (Nat.le_refl _)))
            have HO6 : Hid (BoxO (wr.alloc (.cells #[.int .i64 kd, .int .i64 nn] 27)) wr.heap.size kd nn) := (MapKept.heap_alloc wr _).1
            clear HA HR hc0 hc1
            by_cases hnr : n < 400
            · have hroom : (n : Int) < 400 := by omega
              go_wp2_with fail
              refine (inv_send w _ p 0 ids HA6.out (by rw [HL.out]; omega) 2 0 0 (1 + (q : Int)) 0 none none 0 0 (noKeys _)).mono ?_
              rintro e w7 ⟨rfl, hn, ht⟩
              have HN7 := Lib.hid hn
              have HR7 := Lib.hid (HR6.out.typed ht)
              clear hn ht HA6 HR6
              have HOW : Hid (w7.ownsRow w.heap.size 3 1 (.slice a n cap) n (numsV ids)) := by have h0 := HR7.out; unfold RowI at h0; rw [HL.out] at h0; exact h0
              have HB7 : Hid (w.heap.size ≤ w7.heap.size) := HN7.out.2.1.size
              go_wp2_with (first | (at_builtin; refine wpList_append_own _ rfl _ _ 25 rfl w.heap.size 3 i0 (.int .i64 0) 1 8 Try.underlying25 HI0.out HI1.out HI2.out HI3.out rfl (by decide) _ _ _ rfl (HOW.out.alloc _) ⟨w7.heap.size, 0, none⟩ 1 1 [.int .i64 (1 + (q : Int))] rfl rfl ?c1 ?c2 ?c3 ?c4 ?c5 ?_))
              case c1 => exact cell_one_new _ _ _
              case c2 => intro u hu; simp at hu; subst hu; rfl
              case c3 => unfold maxLen; omega
              case c4 => omega
              case c5 => have := HB7.out; simp; omega
              intro v' w8 hown hgrow _
              have HN8 : Hid (NetInv w w8 p 0 (ids ++ [1 + (q : Int)])) := (HN7.out.keep (Below.one w7 _ (Nat.le_refl _))).grown (HOW.out.alloc _) hgrow
              have HR8 : Hid (RowI w w8 v' (ids ++ [1 + (q : Int)])) := RowI.of_append HL.out.symm hown
              clear hown hgrow HN7 HR7 HOW HB7
              obtain ⟨n2, hn2⟩ : ∃ n2, (ids ++ [1 + (q : Int)]).length = n2 := ⟨_, rfl⟩
              obtain ⟨a2, cap2, hv⟩ := HR8.out.form
              rw [hn2] at hv
              subst hv
              have hl2 : n2 ≤ 400 := by rw [← hn2, List.length_append, HL.out]; simp; omega
              have HL2 := Lib.hid hn2
              clear hn2
              go_wp2_with fail
              refine (len_is w _ p 0 (ids ++ [1 + (q : Int)]) HN8.out (n2 : Int) (by rw [HL2.out])).mono ?_
              rintro e w9 ⟨rfl, rfl⟩
              go_wp2_with fail
              go_roundw
              case rel => exact ⟨q + 1, ids ++ [1 + (q : Int)], by omega, by go_num, by rw [HL2.out]; omega, HN8.out, HR8.out⟩
              case measure => simp [intOf]; omega
            · have hroom : ¬ (n : Int) < 400 := by omega
              go_wp2_with fail
              refine (inv_send_full w _ p 0 ids HA6.out (by rw [HL.out]; omega) 2 0 0 (1 + (q : Int)) 0 none none 0 0 0).mono ?_
              rintro e w7 ⟨rfl, hn, ht⟩
              have HN7 := Lib.hid hn
              have HR7 := Lib.hid (HR6.out.typed ht)
              clear hn ht HA6 HR6
              go_wp2_with fail
              refine (len_is w _ p 0 ids HN7.out (n : Int) (by rw [HL.out])).mono ?_
              rintro e w9 ⟨rfl, rfl⟩
              go_wp2_with fail
              go_roundw
              case rel => exact ⟨q + 1, ids, by omega, by go_num, by rw [HL.out]; exact hl4, HN7.out, HR7.out⟩
              case measure => simp [intOf]; omega
        · as_aux_lemma =>
            have HS : Hid (placeI kd 5 = (2 : Int)) := hsv
            clear hsv
            go_wp2_with fail
            refine (place_is _ _ _ HS.out (by omega) (by omega) _).mono ?_
            rintro e w3 ⟨rfl, rfl⟩
            have HA6 := Lib.hid (HA.out.keep (Below.one wr (.cells #[.int .i64 kd, .int .i64 nn] 27) (Nat.le_refl _)))
            have HR6 := Lib.hid (HR.out.below (Below.one wr (.cells #[.int .i64 kd, .int .i64 nn] 27) (Nat.le_refl _)))
            have HO6 : Hid (BoxO (wr.alloc (.cells #[.int .i64 kd, .int .i64 nn] 27)) wr.heap.size kd nn) := (MapKept.heap_alloc wr _).1
            clear HA HR hc0 hc1
            go_wp2_with fail
            refine (inv_take_no w _ p 0 ids HA6.out nn (by rw [HL.out]; omega)).mono ?_
            rintro e w7 ⟨rfl, hn, hb⟩
            unfold noMsg
            have hr7 := HR6.out.typed (Typed.below hb)
            have HN7 := Lib.hid (hn.keep (Below.one w7 (.cells #[.int .i64 0, .int .i64 0, .int .i64 0, .int .i64 0, .slice none 0 0, .slice none 0 0, .int .i64 0] 32) (Nat.le_refl _)))
            have HR7 := Lib.hid (hr7.below (Below.one w7 (.cells #[.int .i64 0, .int .i64 0, .int .i64 0, .int .i64 0, .slice none 0 0, .slice none 0 0, .int .i64 0] 32) (Nat.le_refl _)))
            have ho7 := HO6.out.typed (Typed.below hb)
            have hob := ho7.cell
            have hobl : wr.heap.size < w7.heap.size := lt_of_block ho7
            clear hn hb hr7 ho7 HA6 HR6 HO6
            go_wp2_with fail
            go_quiet (fail)
            go_wp2_with fail
            generalize w7.alloc _ = W7 at *
            generalize hW8 : W7.drewN _ = W8
            have hB8 : Below W7.heap.size W7 W8 := by rw [← hW8]; exact ⟨rfl, rfl, rfl, Nat.le_refl _, fun _ _ => rfl⟩
            have HN9 := Lib.hid (HN7.out.keep hB8)
            have HR9 := Lib.hid (HR7.out.below hB8)
            clear hW8 hB8 HN7 HR7
            refine (len_is w _ p 0 ids HN9.out (n : Int) (by rw [HL.out])).mono ?_
            rintro e w9 ⟨rfl, rfl⟩
            go_wp2_with fail
            go_roundw
            case rel => exact ⟨q + 1, ids, by omega, by go_num, by rw [HL.out]; exact hl4, HN9.out, HR9.out⟩
            case measure => simp [intOf]; omega
        · as_aux_lemma =>
            have HS : Hid (placeI kd 5 = (3 : Int)) := hsv
            clear hsv
            go_wp2_with fail
            refine (place_is _ _ _ HS.out (by omega) (by omega) _).mono ?_
            rintro e w3 ⟨rfl, rfl⟩
            have HA6 := Lib.hid (HA.out.keep (Below.one wr (.cells #[.int .i64 kd, .int .i64 nn] 27) (Nat.le_refl _)))
            have HR6 := Lib.hid (HR.out.below (Below.one wr (.cells #[.int .i64 kd, .int .i64 nn] 27) (Nat.le_refl _)))
            have HO6 : Hid (BoxO (wr.alloc (.cells #[.int .i64 kd, .int .i64 nn] 27)) wr.heap.size kd nn) := (MapKept.heap_alloc wr _).1
            clear HA HR hc0 hc1
            go_wp2_with fail
            refine (inv_twice_no w _ p 0 ids HA6.out nn (by rw [HL.out]; omega)).mono ?_
            rintro e w7 ⟨rfl, hn, ht⟩
            have HN7 := Lib.hid hn
            have HR7 := Lib.hid (HR6.out.typed ht)
            clear hn ht HA6 HR6 HO6
            go_wp2_with fail
            refine (len_is w _ p 0 ids HN7.out (n : Int) (by rw [HL.out])).mono ?_
            rintro e w9 ⟨rfl, rfl⟩
            go_wp2_with fail
            go_roundw
            case rel => exact ⟨q + 1, ids, by omega, by go_num, by rw [HL.out]; exact hl4, HN7.out, HR7.out⟩
            case measure => simp [intOf]; omega
        · as_aux_lemma =>
            have HS : Hid (placeI kd 5 = (4 : Int)) := hsv
            clear hsv
            go_wp2_with fail
            refine (place_is _ _ _ HS.out (by omega) (by omega) _).mono ?_
            rintro e w3 ⟨rfl, rfl⟩
            have HA6 := Lib.hid (HA.out.keep (Below.one wr (.cells #[.int .i64 kd, .int .i64 nn] 27) (Nat.le_refl _)))
            have HR6 := Lib.hid (HR.out.below (Below.one wr (.cells #[.int .i64 kd, .int .i64 nn] 27) (Nat.le_refl _)))
            have HO6 : Hid (BoxO (wr.alloc (.cells #[.int .i64 kd, .int .i64 nn] 27)) wr.heap.size kd nn) := (MapKept.heap_alloc wr _).1
            clear HA HR hc0 hc1
            go_wp2_with fail
            refine (inv_at_no w _ p 0 ids HA6.out nn (by rw [HL.out]; omega)).mono ?_
            rintro e w7 ⟨rfl, hn, hb⟩
            unfold noMsg
            have hr7 := HR6.out.typed hb
            have HN7 := Lib.hid (hn.keep (Below.one w7 (.cells #[.int .i64 0, .int .i64 0, .int .i64 0, .int .i64 0, .slice none 0 0, .slice none 0 0, .int .i64 0] 32) (Nat.le_refl _)))
            have HR7 := Lib.hid (hr7.below (Below.one w7 (.cells #[.int .i64 0, .int .i64 0, .int .i64 0, .int .i64 0, .slice none 0 0, .slice none 0 0, .int .i64 0] 32) (Nat.le_refl _)))
            have ho7 := HO6.out.typed hb
            have hob := ho7.cell
            have hobl : wr.heap.size < w7.heap.size := lt_of_block ho7
            clear hn hb hr7 ho7 HA6 HR6 HO6
            go_wp2_with fail
            go_quiet (fail)
            go_wp2_with fail
            generalize w7.alloc _ = W7 at *
            generalize hW8 : W7.drewN _ = W8
            have hB8 : Below W7.heap.size W7 W8 := by rw [← hW8]; exact ⟨rfl, rfl, rfl, Nat.le_refl _, fun _ _ => rfl⟩
            have HN9 := Lib.hid (HN7.out.keep hB8)
            have HR9 := Lib.hid (HR7.out.below hB8)
            clear hW8 hB8 HN7 HR7
            refine (len_is w _ p 0 ids HN9.out (n : Int) (by rw [HL.out])).mono ?_
            rintro e w9 ⟨rfl, rfl⟩
            go_wp2_with fail
            go_roundw
            case rel => exact ⟨q + 1, ids, by omega, by go_num, by rw [HL.out]; exact hl4, HN9.out, HR9.out⟩
            case measure => simp [intOf]; omega
    · have hcases : ¬ (q : Int) < (len1 : Int) ∨ ((q : Int) < (len1 : Int) ∧ ¬ (q : Int) < 500) := by omega
      clear hboth
      rcases hcases with hq1 | ⟨hq1, hq5⟩
      all_goals as_aux_lemma =>
        go_wp2_with fail
        generalize decide (q < len1) = db2
        generalize decide (q < 500) = db3
        go_loopw [13] (fun iv wr => ∃ k : Nat, k ≤ n ∧ iv = .int .i64 k ∧ NetInv w wr p 0 ids ∧ RowI w wr (.slice a n cap) ids) (fun iv _ => n - (intOf iv).toNat)
        case atStart => exact ⟨0, by omega, rfl, HA.out, HR.out⟩
        case round =>
          clear HA HR
          obtain ⟨k, hk, rfl, hat, hrow⟩ := hrel
          have HA := Lib.hid hat
          have HR := Lib.hid hrow
          clear hat hrow
          by_cases hlt : (k : Int) < (n : Int)
          · have hk1 : k < n := by omega
            obtain ⟨g, cap', hv, hcap, hgl0, hgc0⟩ := HR.out.has (by rw [HL.out]; omega)
            simp only [Value.slice.injEq] at hv
            obtain ⟨ha, -, rfl⟩ := hv
            subst ha
            obtain ⟨id, hid⟩ : ∃ id, ids[k]? = some id := ⟨ids[k]'(by rw [HL.out]; exact hk1), List.getElem?_eq_getElem _⟩
            have HID := Lib.hid hid
            clear hid hgc0 hgl0
            go_wp2_with fail
            refine (inv_at w _ p 0 ids HA.out k (by rw [HL.out]; exact hk1) id (List.getElem_eq_iff _ |>.2 HID.out)).mono ?_
            rintro e w6 ⟨k1, f1, t1, n1, b1, q1, ka, kc, rfl, hn, ht⟩
            have hr6 := HR.out.typed ht
            obtain ⟨g', cap', hv, -, hgl, hgc⟩ := hr6.has (by rw [HL.out]; omega)
            simp only [Value.slice.injEq, Option.some.injEq, Addr.mk.injEq] at hv
            obtain ⟨⟨rfl, -⟩, -⟩ := hv
            have hcj := hgc k id HID.out
            have HN7 := Lib.hid (hn.keep (Below.one w6 (.cells #[.int .i64 k1, .int .i64 f1, .int .i64 t1, .int .i64 id, .slice b1 0 q1, .slice ka 0 kc, .int .i64 n1] 32) (Nat.le_refl _)))
            have HR7 := Lib.hid (hr6.below (Below.one w6 (.cells #[.int .i64 k1, .int .i64 f1, .int .i64 t1, .int .i64 id, .slice b1 0 q1, .slice ka 0 kc, .int .i64 n1] 32) (Nat.le_refl _)))
            have hj0 : (0 : Int) ≤ (k : Int) := by omega
            clear hn ht hr6 hgc HA HR
            go_wp2_with fail
            go_quiet (fail)
            clear hcj
            go_wp2_with fail
            generalize w6.alloc _ = W7 at *
            generalize hW8 : W7.drewN _ = W8
            have hB8 : Below W7.heap.size W7 W8 := by rw [← hW8]; exact ⟨rfl, rfl, rfl, Nat.le_refl _, fun _ _ => rfl⟩
            have HN8 := Lib.hid (HN7.out.keep hB8)
            have HR8 := Lib.hid (HR7.out.below hB8)
            clear hW8 hB8 HN7 HR7
            go_roundw
            case rel => exact ⟨k + 1, by omega, by go_num, HN8.out, HR8.out⟩
            case measure => simp [intOf]; omega
          · have hge2 : (n : Int) ≤ (k : Int) := by omega
            go_wp2_with fail
            refine (awake22_any _).mono ?_
            rintro e w6 ⟨rfl, hb⟩
            go_wp2_with fail
            go_ret
            exact ⟨rfl, HA.out.2.1.trans (hb.mono HA.out.2.1.size)⟩

end Go.Proofs.Ytgjpjningkckpaa
