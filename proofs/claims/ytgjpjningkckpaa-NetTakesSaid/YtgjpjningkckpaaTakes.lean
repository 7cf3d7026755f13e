/- The walk of the law NetTakes. -/
import Derived.Test.YtgjpjningkckpaaOrders
import Derived.Test.YtgjpjningkckpaaRow
namespace Go.Proofs.Ytgjpjningkckpaa
open Go.RowKit
set_option linter.unusedVariables false
set_option linter.unusedSimpArgs false

/-- what the walk is told of a slice of integers that came in -/
def CameIn (w : World) (a : Option Addr) (len : Nat) : Prop := ∀ i : Nat, i < len → ∃ x, a = some x ∧ ∃ z : Int, w.cell? (x.add i) = some (.int .i64 z)
theorem CameIn.at {w wr : World} {a : Option Addr} {len : Nat} (h : CameIn w a len) (hb : Below w.heap.size w wr) (i : Nat) (hi : i < len) : ∃ x, a = some x ∧ ∃ z : Int, wr.cell? (x.add i) = some (.int .i64 z) := by
  obtain ⟨x, hx, z, hz⟩ := h i hi
  refine ⟨x, hx, z, ?_⟩
  have hl : (x.add i).block < w.heap.size := World.block_lt_of_cell? w _ hz
  rw [World.cell?_of_block (hb.block _ hl)]
  exact hz

theorem len_take_drop {ids : List Int} {n j : Nat} (hn : ids.length = n) (hj : j < n) : (ids.take j ++ ids.drop (j + 1)).length = n - 1 := by
  rw [List.length_append, List.length_take, List.length_drop]; omega

set_option maxRecDepth 100000 in
set_option maxHeartbeats 400000 in
theorem takes_walk (a0 : Int) (a1 : Option Addr) (len1 cap1 : Nat) (w : World) (hin : CameIn w a1 len1) (hl63 : len1 ≤ 9223372036854775807) :
    Calls Try.prog 6 #[.int .i64 a0, .slice a1 len1 cap1] w fun e w' => e = .returned (.bool true) ∧ Below w.heap.size w w' := by
  obtain ⟨r, hr, hrv⟩ := place_nat a0 60 (by omega)
  have HP := Lib.hid hrv
  have HIN := Lib.hid hin
  have H63 := Lib.hid hl63
  obtain ⟨i0, hi, hz0, hz1, hz2⟩ := info_parts info3
  have HI0 := Lib.hid hi
  have HI1 := Lib.hid hz0
  have HI2 := Lib.hid hz1
  have HI3 := Lib.hid hz2
  clear hrv hin hl63 hi hz0 hz1 hz2
  go_enter Try.func6, Try.ntmps6
  go_wp2_with fail
  refine (new_any _).mono ?_
  rintro e w1 ⟨rfl, rfl⟩
  have HN := Lib.hid (NetInv.new w w 0 (Below.refl _ _))
  generalize w.alloc _ = W1 at *
  generalize hpp : w.heap.size = p at HN ⊢
  have HPP := Lib.hid hpp
  clear hpp
  go_wp2_with fail
  refine (place_is _ _ _ HP.out (by omega) (by omega) _).mono ?_
  rintro e w2 ⟨rfl, rfl⟩
  go_wp2_with fail
  go_loopw [7, 8] (fun lv iv wr => ∃ i : Nat, i ≤ r ∧ iv = .int .i64 i ∧ NetInv w wr p 0 (fromOne i) ∧ RowI w wr lv (fromOne i)) (fun _ iv _ => r - (intOf iv).toNat)
  case atStart => exact ⟨0, by omega, rfl, HN.out, RowI.nil _ _⟩
  case round =>
    clear HN
    obtain ⟨i, hi, rfl, hat, hrow⟩ := hrel
    have HA := Lib.hid hat
    have HR := Lib.hid hrow
    clear hat hrow
    by_cases hlt : (i : Int) < (r : Int)
    · go_wp2_with fail
      refine (inv_send w _ p 0 (fromOne i) HA.out (by rw [fromOne_length]; omega) 1 0 0 ((i : Int) + 1) 0 none none 0 0 (noKeys _)).mono ?_
      rintro e w3 ⟨rfl, hn, ht⟩
      have HN3 : Hid (NetInv w w3 p 0 (fromOne (i + 1))) := by rw [fromOne_succ]; exact hn
      have HO : Hid (w3.ownsRow w.heap.size 3 1 _ (fromOne i).length (numsV (fromOne i))) := HR.out.typed ht
      have HB3 : Hid (w.heap.size ≤ w3.heap.size) := HN3.out.2.1.size
      have HLI : Hid ((fromOne i).length = i) := fromOne_length i
      clear hn ht HA HR
      go_wp2_with (first | (at_builtin; refine wpList_append_own _ rfl _ _ 25 rfl w.heap.size 3 i0 (.int .i64 0) 1 8 Try.underlying25 HI0.out HI1.out HI2.out HI3.out rfl (by decide) _ _ _ rfl (HO.out.alloc _) ⟨w3.heap.size, 0, none⟩ 1 1 [.int .i64 ((i : Int) + 1)] rfl rfl ?c1 ?c2 ?c3 ?c4 ?c5 ?_))
      case c1 => exact cell_one_new _ _ _
      case c2 => intro u hu; simp at hu; subst hu; rfl
      case c3 => rw [HLI.out]; unfold maxLen; omega
      case c4 => rw [HLI.out]; omega
      case c5 => have := HB3.out; simp; omega
      intro v' w4 hown hgrow _
      have HN4 : Hid (NetInv w w4 p 0 (fromOne (i + 1))) := (HN3.out.keep (Below.one w3 _ (Nat.le_refl _))).grown (HO.out.alloc _) hgrow
      have HR4 : Hid (RowI w w4 v' (fromOne (i + 1))) := by rw [fromOne_succ]; exact RowI.of_append rfl hown
      clear hown hgrow
      go_wp2_with fail
      go_roundw
      case rel => exact ⟨i + 1, by omega, by go_num, HN4.out, HR4.out⟩
      case measure => simp [intOf]; omega
    · have hge : (r : Int) ≤ (i : Int) := by omega
      have HLI : Hid ((fromOne i).length ≤ 60) := by have := fromOne_length i; unfold Hid; omega
      clear hlt
      go_wp2_with fail
      generalize decide (i < r) = db
      go_loopw [7, 9] (fun lv iv wr => ∃ (q : Nat) (ids : List Int), q ≤ len1 ∧ iv = .int .i64 q ∧ ids.length ≤ 60 ∧ NetInv w wr p 0 ids ∧ RowI w wr lv ids) (fun _ iv _ => len1 - (intOf iv).toNat)
      case atStart => exact ⟨0, fromOne i, by omega, rfl, HLI.out, HA.out, HR.out⟩
      case round =>
        clear HA HR HLI
        obtain ⟨q, ids, hq, rfl, hl60, hat, hrow⟩ := hrel
        obtain ⟨n, hn⟩ : ∃ n, ids.length = n := ⟨_, rfl⟩
        obtain ⟨a, cap, hv⟩ := hrow.form
        rw [hn] at hl60 hv
        subst hv
        have HA := Lib.hid hat
        have HR := Lib.hid hrow
        have HL := Lib.hid hn
        clear hat hrow hn
        have H63' := H63.out
        by_cases hboth : q < len1 ∧ 0 < n
        · obtain ⟨hq1, hn0⟩ := hboth
          have hq2 : (q : Int) < (len1 : Int) := by omega
          have hq0 : (0 : Int) ≤ (q : Int) := by omega
          have hn2 : (0 : Int) < (n : Int) := by omega
          obtain ⟨x, hx, z, hz⟩ := HIN.out.at HA.out.2.1 q hq1
          subst hx
          obtain ⟨j, hj, hjv⟩ := place_nat z n hn0
          have HJ := Lib.hid hjv
          obtain ⟨g, cap', hv, hcap, hgl, hgc⟩ := HR.out.has (by rw [HL.out]; exact hn0)
          simp only [Value.slice.injEq] at hv
          obtain ⟨rfl, -, rfl⟩ := hv
          rw [HL.out] at hcap
          obtain ⟨id, hid⟩ : ∃ id, ids[j]? = some id := ⟨ids[j]'(by rw [HL.out]; exact hj), List.getElem?_eq_getElem _⟩
          have HID := Lib.hid hid
          clear hjv hgl hgc hid
          go_wp2_with fail
          refine (place_is _ _ _ HJ.out (by omega) (by omega) _).mono ?_
          rintro e w3 ⟨rfl, rfl⟩
          clear hz
          go_wp2_with fail
          refine (inv_take w _ p 0 ids HA.out (by rw [HL.out]; omega) j (by rw [HL.out]; exact hj) id (List.getElem_eq_iff _ |>.2 HID.out)).mono ?_
          rintro e w6 ⟨k1, f1, t1, n1, b1, q1, ka, kc, rfl, hn, ht⟩
          have hr6 := HR.out.typed ht
          obtain ⟨g', cap', hv, -, hgl, hgc⟩ := hr6.has (by rw [HL.out]; exact hn0)
          simp only [Value.slice.injEq, Option.some.injEq, Addr.mk.injEq] at hv
          obtain ⟨⟨rfl, -⟩, -⟩ := hv
          have hcj := hgc j id HID.out
          have HN7 := Lib.hid (hn.keep (Below.one w6 (.cells #[.int .i64 k1, .int .i64 f1, .int .i64 t1, .int .i64 id, .slice b1 0 q1, .slice ka 0 kc, .int .i64 n1] 32) (Nat.le_refl _)))
          have HR7 := Lib.hid (hr6.below (Below.one w6 (.cells #[.int .i64 k1, .int .i64 f1, .int .i64 t1, .int .i64 id, .slice b1 0 q1, .slice ka 0 kc, .int .i64 n1] 32) (Nat.le_refl _)))
          have hj0 : (0 : Int) ≤ (j : Int) := by omega
          have hjn : (j : Int) < (n : Int) := by omega
          clear hn ht hr6 hgc HA HR
          go_wp2_with fail
          go_quiet (fail)
          clear hcj
          go_wp2_with fail
          generalize w6.alloc _ = W7 at *
          generalize hW8 : W7.drewN _ = W8
          have hB8 : Below W7.heap.size W7 W8 := by rw [← hW8]; exact ⟨rfl, rfl, rfl, Nat.le_refl _, fun _ _ => rfl⟩
          have HN8 := Lib.hid (HN7.out.keep hB8)
          have HR8 := Lib.hid (HR7.out.below hB8)
          clear hW8 hB8 HN7 HR7
          have hsh := fun W => slice25_h g n cap j (by omega) W
          obtain ⟨o, ho, hsl'⟩ := slice25_l g n cap (j + 1) (by omega)
          have hsl : ∀ W, (Instr.slice 25 (.slice (some ⟨g, 0, none⟩) n cap) (some (.int .i64 ((j : Int) + 1))) none none).run Try.prog W = .ok (.slice (some ⟨g, o, none⟩) (n - (j + 1)) (cap - (j + 1))) W := fun W => hsl' W
          have hwr : IntKind.i64.wrap ((j : Int) + 1) = (j : Int) + 1 := IntWalk.i64_in _ (by omega)
          have HOO := Lib.hid ho
          clear hsl' ho
          have HB8 := Lib.hid HN8.out.2.1.size
          go_region_law (first | (refine step_append_own (by rfl) _ _ _ (by rfl) w.heap.size 3 i0 (.int .i64 0) 1 8 Try.underlying25 HI0.out HI1.out HI2.out HI3.out (by rfl) (by omega) (.slice none 0 0) 0 [] (by simp [Act.eval, Act.put]) (World.ownsRow_nil _ _ _ _) ⟨g, 0, none⟩ j cap (numsV (ids.take j)) (by simp [Act.eval, Act.put]) (by rw [numsV_length, List.length_take, HL.out]; omega) (news_front HR8.out HL.out ((Below.refl _ _).drew) j hj) (numsV_ones _) (by unfold maxLen; omega) (by omega) HB8.out ?_; intro v1 w8 hown1 hg1; have HOW1 := Lib.hid hown1; have HG1 : Hid (W8.drew.grownBy w8 none) := hg1; clear hown1 hg1) | (refine step_append_own (by rfl) _ _ _ (by rfl) w.heap.size 3 i0 (.int .i64 0) 1 8 Try.underlying25 HI0.out HI1.out HI2.out HI3.out (by rfl) (by omega) v1 (0 + j) ([] ++ numsV (ids.take j)) (by simp [Act.eval, Act.put]) HOW1.out ⟨g, o, none⟩ (n - (j + 1)) (cap - (j + 1)) (numsV (ids.drop (j + 1))) (by simp [Act.eval, Act.put]) (by rw [numsV_length, List.length_drop, HL.out]; omega) (news_back HR8.out HL.out (((Below.refl _ _).drew).grown HG1.out (Nat.le_refl _) (fun k hk => by cases hk)) j hj HOO.out) (numsV_ones _) (by unfold maxLen; omega) (by omega) (Nat.le_trans HB8.out HG1.out.size) ?_; intro v2 w9 hown2 hg2; have HR9 := Lib.hid (row_taken hown2 HL.out hj); have HN9 := Lib.hid (((HN8.out.keep ((Below.refl _ _).drew)).grown (World.ownsRow_nil _ _ _ _) HG1.out).grown HOW1.out hg2); clear hown2 hg2))
          all_goals
            have HL9 := Lib.hid (len_take_drop HL.out hj)
            clear HN8 HR8 HB8 HOO hsl hsh hwr
            go_wp2_with fail
            go_roundw
            case rel => exact ⟨q + 1, ids.take j ++ ids.drop (j + 1), by omega, by go_num, by rw [HL9.out]; omega, HN9.out, HR9.out⟩
            case measure => simp [intOf]; omega
        · have hcases : ¬ (q : Int) < (len1 : Int) ∨ ((q : Int) < (len1 : Int) ∧ n = 0) := by omega
          clear hboth
          rcases hcases with hq1 | ⟨hq1, hn0⟩
          · go_wp2_with fail
            generalize decide (q < len1) = db2
            go_loopw [13] (fun iv wr => ∃ k : Nat, k ≤ n ∧ iv = .int .i64 k ∧ NetInv w wr p 0 ids ∧ RowI w wr (.slice a n cap) ids) (fun iv _ => n - (intOf iv).toNat)
            case atStart => exact ⟨0, by omega, rfl, HA.out, HR.out⟩
            case round =>
              clear HA HR
              obtain ⟨k, hk, rfl, hat, hrow⟩ := hrel
              have HA := Lib.hid hat
              have HR := Lib.hid hrow
              clear hat hrow
              by_cases hlt : (k : Int) < (n : Int)
              · have hk1 : k < n := by omega
                obtain ⟨g, cap', hv, hcap, hgl0, hgc0⟩ := HR.out.has (by rw [HL.out]; omega)
                simp only [Value.slice.injEq] at hv
                obtain ⟨ha, -, rfl⟩ := hv
                subst ha
                obtain ⟨id, hid⟩ : ∃ id, ids[k]? = some id := ⟨ids[k]'(by rw [HL.out]; exact hk1), List.getElem?_eq_getElem _⟩
                have HID := Lib.hid hid
                clear hid hgc0 hgl0
                go_wp2_with fail
                refine (inv_at w _ p 0 ids HA.out k (by rw [HL.out]; exact hk1) id (List.getElem_eq_iff _ |>.2 HID.out)).mono ?_
                rintro e w6 ⟨k1, f1, t1, n1, b1, q1, ka, kc, rfl, hn, ht⟩
                have hr6 := HR.out.typed ht
                obtain ⟨g', cap', hv, -, hgl, hgc⟩ := hr6.has (by rw [HL.out]; omega)
                simp only [Value.slice.injEq, Option.some.injEq, Addr.mk.injEq] at hv
                obtain ⟨⟨rfl, -⟩, -⟩ := hv
                have hcj := hgc k id HID.out
                have HN7 := Lib.hid (hn.keep (Below.one w6 (.cells #[.int .i64 k1, .int .i64 f1, .int .i64 t1, .int .i64 id, .slice b1 0 q1, .slice ka 0 kc, .int .i64 n1] 32) (Nat.le_refl _)))
                have HR7 := Lib.hid (hr6.below (Below.one w6 (.cells #[.int .i64 k1, .int .i64 f1, .int .i64 t1, .int .i64 id, .slice b1 0 q1, .slice ka 0 kc, .int .i64 n1] 32) (Nat.le_refl _)))
                have hj0 : (0 : Int) ≤ (k : Int) := by omega
                clear hn ht hr6 hgc HA HR
                go_wp2_with fail
                go_quiet (fail)
                clear hcj
                go_wp2_with fail
                generalize w6.alloc _ = W7 at *
                generalize hW8 : W7.drewN _ = W8
                have hB8 : Below W7.heap.size W7 W8 := by rw [← hW8]; exact ⟨rfl, rfl, rfl, Nat.le_refl _, fun _ _ => rfl⟩
                have HN8 := Lib.hid (HN7.out.keep hB8)
                have HR8 := Lib.hid (HR7.out.below hB8)
                clear hW8 hB8 HN7 HR7
                go_roundw
                case rel => exact ⟨k + 1, by omega, by go_num, HN8.out, HR8.out⟩
                case measure => simp [intOf]; omega
              · have hge2 : (n : Int) ≤ (k : Int) := by omega
                go_wp2_with fail
                refine (len_is w _ p 0 ids HA.out (n : Int) (by rw [HL.out])).mono ?_
                rintro e w5 ⟨rfl, rfl⟩
                go_wp2_with fail
                refine (awake22_any _).mono ?_
                rintro e w6 ⟨rfl, hb⟩
                go_wp2_with fail
                go_ret
                exact ⟨rfl, HA.out.2.1.trans (hb.mono HA.out.2.1.size)⟩
          · have hn2 : ¬ (0 : Int) < (n : Int) := by omega
            clear hn0
            go_wp2_with fail
            generalize decide (q < len1) = db2
            go_loopw [13] (fun iv wr => ∃ k : Nat, k ≤ n ∧ iv = .int .i64 k ∧ NetInv w wr p 0 ids ∧ RowI w wr (.slice a n cap) ids) (fun iv _ => n - (intOf iv).toNat)
            case atStart => exact ⟨0, by omega, rfl, HA.out, HR.out⟩
            case round =>
              clear HA HR
              obtain ⟨k, hk, rfl, hat, hrow⟩ := hrel
              have HA := Lib.hid hat
              have HR := Lib.hid hrow
              clear hat hrow
              by_cases hlt : (k : Int) < (n : Int)
              · exfalso; omega
              · have hge2 : (n : Int) ≤ (k : Int) := by omega
                go_wp2_with fail
                refine (len_is w _ p 0 ids HA.out (n : Int) (by rw [HL.out])).mono ?_
                rintro e w5 ⟨rfl, rfl⟩
                go_wp2_with fail
                refine (awake22_any _).mono ?_
                rintro e w6 ⟨rfl, hb⟩
                go_wp2_with fail
                go_ret
                exact ⟨rfl, HA.out.2.1.trans (hb.mono HA.out.2.1.size)⟩

end Go.Proofs.Ytgjpjningkckpaa
