/- Version.Check. -/
import Derived.Test.YtebkmpgmcldeoaaDoorSj
import Derived.Deep.Cut
import Derived.Deep.CutRange
import Derived.Deep.DeepCutAuto
namespace Go.Proofs.YtebkmpgmcldeoaaDoor
open Go Go.Proofs Go.RowKit Go.Sort
set_option linter.unusedVariables false

theorem below_snoc {p : Nat → Prop} {j : Nat} (h : ∀ k, k < j → p k) (hj : p j) : ∀ k, k < j + 1 → p k := fun k hk => by
  rcases Nat.lt_or_ge k j with h1 | h1
  · exact h k h1
  · obtain rfl : k = j := by omega
    exact hj
theorem all_range {n : Nat} {f : Nat → Bool} (h : ∀ k, k < n → f k = true) : (List.range n).all f = true := by
  rw [List.all_eq_true]; exact fun k hk => h k (List.mem_range.1 hk)
theorem levels_false {l : List Meta} {k : Nat} (h1 : 1 ≤ k) (h2 : k < 6) (h : levelOk l k = false) : (List.range' 1 5).all (levelOk l) = false := by
  rw [List.all_eq_false]
  exact ⟨k, by simp [List.mem_range'_1]; omega, by simp [h]⟩
theorem levels_true {l : List Meta} {k : Nat} (h : ∀ i, i < k → 1 ≤ i → levelOk l i = true) (hk : 6 ≤ k) : (List.range' 1 5).all (levelOk l) = true := by
  rw [List.all_eq_true]
  intro i hi
  simp [List.mem_range'_1] at hi
  exact h i (by omega) (by omega)
theorem apartL_false {l : List Meta} {j : Nat} (h : j + 1 < l.length) (hj : apartAt l j = false) : apartL l = false := by
  unfold apartL
  rw [List.all_eq_false]
  exact ⟨j, List.mem_range.2 (by omega), by simp [hj]⟩
theorem belowDrew {B : Nat} {a W : World} (h : RowKit.Below B a W) (q : Nat) : RowKit.Below B a (W.drewN q) := h.trans ⟨rfl, rfl, rfl, Nat.le_refl _, fun _ _ => rfl⟩
theorem fileOk_false {nx : Int} {l : List Meta} {k : Nat} (hk : k < l.length) (h : fileOk nx l k = false) : (List.range l.length).all (fileOk nx l) = false := by
  rw [List.all_eq_false]
  exact ⟨k, List.mem_range.2 hk, by simp [h]⟩

set_option maxHeartbeats 4000000 in
set_option maxRecDepth 100000 in
theorem verCheck_main (w : World) {v : Value} {l : List Meta} (hr : Rds w 5 v l.length (metaV l)) (hv : ∀ k, v.ownBlock = some k → k < w.heap.size) (hb : ∀ m ∈ l, boundM m) (lg nx : Int) (sq : Nat) (h : headOk lg nx sq = true) (hn : l.length ≤ 1000) :
    Calls Tryd.prog 49 #[.agg #[v, .int .i64 lg, .int .i64 nx, .int .u64 sq]] w fun e w' => e = .returned (.int .i64 (checkR ⟨l, lg, nx, sq⟩)) ∧ Below w.heap.size w w' := by
  have hmo : Tryd.prog.follows .mixedOrders = true := by kernel_rfl
  obtain ⟨_, A, c, rfl, hc, hA, _⟩ := id hr
  have HR := Lib.hid hr
  have HV := Lib.hid hv
  have HBD := Lib.hid hb
  have HCR := Lib.hid (show checkR ⟨l, lg, nx, sq⟩ = if (List.range l.length).all (fileOk nx l) = false then 1 else if (List.range' 1 5).all (levelOk l) = false then 1 else 0 by
    unfold checkR; simp only; rw [h, if_neg (by simp), if_neg (by omega)])
  generalize checkR ⟨l, lg, nx, sq⟩ = r at HCR ⊢
  unfold headOk at h
  rw [decide_eq_true_eq] at h
  obtain ⟨h1, h2, h3, h4, h5⟩ := h
  clear hr hv hb
  obtain ⟨W0, hW0⟩ : ∃ x, x = w.alloc (.cells #[.slice A l.length c, .int .i64 lg, .int .i64 nx, .int .u64 sq] 37) := ⟨_, rfl⟩
  have HW0 := Lib.hid hW0
  have HB0 := Lib.hid (show Below w.heap.size w W0 by rw [hW0]; exact (Below.refl _ _).alloc (Nat.le_refl _) _)
  have HV0 := Lib.hid (show W0.heap[w.heap.size]? = some (.cells #[.slice A l.length c, .int .i64 lg, .int .i64 nx, .int .u64 sq] 37 (0, 0)) by rw [hW0]; exact heap_alloc_new w _)
  clear hW0
  have hWl : w.heap.size < W0.heap.size := lt_of_heap HV0.out
  go_enter Tryd.func49, Tryd.ntmps49
  go_upto_region 5 with fail
  rw [← HW0.out]
  have HV0c := Lib.hid (cell_of_heap HV0.out 0)
  go_cut [36, 37, 38] (fun s36 s37 s38 wx => s36 = .slice A l.length c ∧ s37 = .int .i64 l.length ∧ s38 = .int .i64 0 ∧ W0 = wx)
  case first =>
    have hc0 := HV0c.out
    go_wp2_with fail
    go_meet
    case rel => exact ⟨rfl, rfl, rfl, rfl⟩
  case rest =>
  obtain ⟨rfl, rfl, rfl, rfl⟩ := hcut
  go_wp2_with fail
  go_loopw [38, 3, 4] (fun i _ _ wr => ∃ j : Nat, i = .int .i64 j ∧ j ≤ l.length ∧ Hid (Below W0.heap.size W0 wr) ∧ Hid (∀ k, k < j → fileOk nx l k = true)) (fun i _ _ _ => l.length - (intOf i).toNat)
  case atStart => exact ⟨0, rfl, Nat.zero_le _, Lib.hid (Below.refl _ _), Lib.hid (fun k hk => by omega)⟩
  case round =>
    obtain ⟨j, rfl, hj, HBw, HOK⟩ := hrel
    have hV := (HBw.out.block w.heap.size hWl).trans HV0.out
    have cv0 := cell_of_heap hV 0
    have cv1 := cell_of_heap hV 1
    have cv2 := cell_of_heap hV 2
    have cv3 := cell_of_heap hV 3
    have hwr : W0.heap.size ≤ wr.heap.size := HBw.out.size
    clear hV
    by_cases hlt : j < l.length
    · cases A with
      | none => have := (hA rfl).1; omega
      | some a =>
        obtain ⟨bb, oo, ss⟩ := a
        have hsp : ss = none := by obtain ⟨_, A', c', he, _, _, hcc⟩ := HR.out; injection he with he _ _; exact (hcc _ he.symm).1
        subst hsp
        have hRw : Rds wr 5 (.slice (some ⟨bb, oo, none⟩) l.length c) l.length (metaV l) := HR.out.keep fun q hq => (HBw.out.block q (by have := HV.out q hq; omega)).trans (HB0.out.block q (HV.out q hq))
        have hbb : bb < wr.heap.size := Nat.lt_of_lt_of_le (HV.out bb rfl) (by omega)
        obtain ⟨c0, c1, c2, c3, c4⟩ := meta_cells hRw hlt
        obtain ⟨m, hm⟩ : ∃ m, m = l[j] := ⟨_, rfl⟩
        have hmd : l.getD j default = m := by rw [hm]; simp [hlt]
        rw [← hm] at c0 c1 c2 c3 c4
        obtain ⟨W1, hW1⟩ : ∃ x, x = wr.alloc (.cells #[.int .i64 m.num, .int .i64 m.level, .string m.low, .string m.high, .int .i64 m.size] 42) := ⟨_, rfl⟩
        have hM1 : W1.heap[wr.heap.size]? = some (.cells #[.int .i64 m.num, .int .i64 m.level, .string m.low, .string m.high, .int .i64 m.size] 42 (0, 0)) := by rw [hW1]; exact heap_alloc_new wr _
        have hmsz : wr.heap.size < W1.heap.size := lt_of_heap hM1
        have hwsz : w.heap.size < W1.heap.size := by omega
        have hbsz : bb < W1.heap.size := by omega
        have HBW1 := Lib.hid (show Below W0.heap.size W0 W1 by rw [hW1]; exact HBw.out.alloc hwr _)
        have hV1 := (HBW1.out.block w.heap.size hWl).trans HV0.out
        have g0 := cell_grown hmsz (cell_of_heap hM1 0)
        have g1 := cell_grown hmsz (cell_of_heap hM1 1)
        have g2 := cell_grown hmsz (cell_of_heap hM1 2)
        have g3 := cell_grown hmsz (cell_of_heap hM1 3)
        have g4 := cell_grown hmsz (cell_of_heap hM1 4)
        have gv0 := cell_grown hwsz (cell_of_heap hV1 0)
        have gv2 := cell_grown hwsz (cell_of_heap hV1 2)
        have HW1 := Lib.hid hW1
        have hck : ∀ W, Calls Tryd.prog 65 #[.agg #[.int .i64 m.num, .int .i64 m.level, .string m.low, .string m.high, .int .i64 m.size]] W fun e w' => e = .returned (.bool (okM m)) ∧ ∃ q os', w' = grow (W.drewN q) os' := fun W => metaCheck_calls W m
        have HRW := Lib.hid (show Rds W1 5 (.slice (some ⟨bb, oo, none⟩) l.length c) l.length (metaV l) from hRw.keep fun q hq => by rw [hW1]; exact Below.heap_alloc _ _ _ (by have := HV.out q hq; omega))
        have HFO := Lib.hid (show fileOk nx l j = (okM m && decide (m.num < nx) && (j == 0 || decide ((l.getD (j - 1) default).num < m.num))) by unfold fileOk; rw [hmd])
        clear hRw hm hmd hW1 hM1 hV1 hA
        cases hok : okM m with
        | false =>
          rw [hok] at hck HFO
          have HF := Lib.hid (show r = 1 by rw [HCR.out, if_pos (fileOk_false hlt (by rw [HFO.out]; rfl))])
          clear hok
          go_wp2_with fail
          rw [← HW1.out]
          clear c0 c1 c2 c3 c4 cv0 cv1 cv2 cv3 h1 h2 h3 h4 h5
          refine wp_region_quiet_grown (by assumption) (by kernel_rfl) ?_
          repeat (go_big_quiet_step ((go_at_call 65; refine Calls.grown_of (hck _))))
          refine wpQuiet_nil ?_
          rintro _ ⟨⟨nq, osq⟩, rfl⟩
          have HBX := Lib.hid (belowGrown HBW1.out (by omega) nq osq)
          go_wp2_with fail
          go_ret
          exact ⟨by rw [HF.out]; rfl, HB0.out.trans (HBX.out.mono (by omega))⟩
        | true =>
          rw [hok] at hck HFO
          clear hok
          by_cases hnx : m.num < nx
          · have hd1 : decide (m.num ≥ nx) = false := decide_eq_false (by omega)
            have hd2 : decide (nx ≤ m.num) = false := decide_eq_false (by omega)
            rcases Nat.eq_zero_or_pos j with hj0 | hj0
            · have HT := Lib.hid (show fileOk nx l j = true by rw [HFO.out, hj0, decide_eq_true hnx]; rfl)
              have hjn : ¬ 0 < j := by omega
              clear hj0
              have hj1 : decide ((0 : Int) < (j : Int)) = false := decide_eq_false (by omega)
              go_wp2_with fail
              rw [← HW1.out]
              clear c0 c1 c2 c3 c4 cv0 cv1 cv2 cv3 h1 h2 h3 h4 h5
              refine wp_region_quiet_grown (by assumption) (by kernel_rfl) ?_
              repeat (go_big_quiet_step ((go_at_call 65; refine Calls.grown_of (hck _))))
              refine wpQuiet_nil ?_
              rintro _ ⟨⟨nq, osq⟩, rfl⟩
              have HBX := Lib.hid (belowGrown HBW1.out (by omega) nq osq)
              go_wp2_with fail
              go_roundw
              case rel => exact ⟨j + 1, by rw [Int.natCast_add]; rfl, by omega, HBX, Lib.hid (below_snoc HOK.out HT.out)⟩
              case measure => simp [intOf]; omega
            · have hj1 : decide ((0 : Int) < (j : Int)) = true := decide_eq_true (by omega)
              obtain ⟨p, hp⟩ : ∃ p, p = l.getD (j - 1) default := ⟨_, rfl⟩
              have hpl : j - 1 < l.length := by omega
              have gp := cell_grown hbsz (show W1.cell? ⟨bb, oo + (j - 1) * 5, none⟩ = some (.int .i64 p.num) by
                have := (meta_cells HRW.out hpl).1; rw [this, hp]; simp [hpl])
              have hw1 : IntKind.i64.wrap ((j : Int) - 1) = ((j - 1 : Nat) : Int) := by rw [IntKind.wrap_i64]; omega
              have hjz : (j : Int) - 1 = ((j - 1 : Nat) : Int) := by omega
              obtain ⟨q, hq⟩ : ∃ q, q = j - 1 := ⟨_, rfl⟩
              rw [← hq] at gp hw1 hpl hjz
              have hqj : q < j := by omega
              rw [← hp] at HFO
              clear hp hq
              by_cases hpm : p.num < m.num
              · have hd3 : decide (p.num ≥ m.num) = false := decide_eq_false (by omega)
                have hd4 : decide (m.num ≤ p.num) = false := decide_eq_false (by omega)
                have HT := Lib.hid (show fileOk nx l j = true by rw [HFO.out, decide_eq_true hnx, decide_eq_true hpm]; simp)
                go_wp2_with fail
                rw [← HW1.out]
                clear c0 c1 c2 c3 c4 cv0 cv1 cv2 cv3 h1 h2 h3 h4 h5
                refine wp_region_quiet_grown (by assumption) (by kernel_rfl) ?_
                repeat (go_big_quiet_step ((go_at_call 65; refine Calls.grown_of (hck _))))
                refine wpQuiet_nil ?_
                rintro _ ⟨⟨nq, osq⟩, rfl⟩
                have HBX := Lib.hid (belowGrown HBW1.out (by omega) nq osq)
                go_wp2_with fail
                go_roundw
                case rel => exact ⟨j + 1, by rw [Int.natCast_add]; rfl, by omega, HBX, Lib.hid (below_snoc HOK.out HT.out)⟩
                case measure => simp [intOf]; omega
              · have hd3 : decide (p.num ≥ m.num) = true := decide_eq_true (by omega)
                have hd4 : decide (m.num ≤ p.num) = true := decide_eq_true (by omega)
                have HF := Lib.hid (show r = 1 by
                  rw [HCR.out, if_pos (fileOk_false hlt (by rw [HFO.out, decide_eq_false hpm, show (j == 0) = false from by rw [beq_eq_false_iff_ne]; omega]; simp))])
                go_wp2_with fail
                rw [← HW1.out]
                clear c0 c1 c2 c3 c4 cv0 cv1 cv2 cv3 h1 h2 h3 h4 h5
                refine wp_region_quiet_grown (by assumption) (by kernel_rfl) ?_
                repeat (go_big_quiet_step ((go_at_call 65; refine Calls.grown_of (hck _))))
                refine wpQuiet_nil ?_
                rintro _ ⟨⟨nq, osq⟩, rfl⟩
                have HBX := Lib.hid (belowGrown HBW1.out (by omega) nq osq)
                go_wp2_with fail
                go_ret
                exact ⟨by rw [HF.out]; rfl, HB0.out.trans (HBX.out.mono (by omega))⟩
          · have hd1 : decide (m.num ≥ nx) = true := decide_eq_true (by omega)
            have hd2 : decide (nx ≤ m.num) = true := decide_eq_true (by omega)
            have HF := Lib.hid (show r = 1 by rw [HCR.out, if_pos (fileOk_false hlt (by rw [HFO.out, decide_eq_false hnx]; simp))])
            go_wp2_with fail
            rw [← HW1.out]
            clear c0 c1 c2 c3 c4 cv0 cv1 cv2 cv3 h1 h2 h3 h4 h5
            refine wp_region_quiet_grown (by assumption) (by kernel_rfl) ?_
            repeat (go_big_quiet_step ((go_at_call 65; refine Calls.grown_of (hck _))))
            refine wpQuiet_nil ?_
            rintro _ ⟨⟨nq, osq⟩, rfl⟩
            have HBX := Lib.hid (belowGrown HBW1.out (by omega) nq osq)
            go_wp2_with fail
            go_ret
            exact ⟨by rw [HF.out]; rfl, HB0.out.trans (HBX.out.mono (by omega))⟩
    · have HF1 := Lib.hid (show r = if (List.range' 1 5).all (levelOk l) = false then 1 else 0 by
        rw [HCR.out, if_neg (by rw [all_range fun k hk => HOK.out k (by omega)]; simp)])
      clear HOK HCR
      have HBw1 := Lib.hid (HB0.out.trans (HBw.out.mono (by omega)))
      go_wp2_with fail
      clear cv0 cv1 cv2 cv3
      obtain ⟨wo, hwo⟩ : ∃ x, x = wr := ⟨_, rfl⟩
      subst hwo
      go_loopw [5, 6, 7] (fun i _ _ wr => ∃ k : Nat, i = .int .i64 k ∧ 1 ≤ k ∧ k ≤ 6 ∧ Hid (RowKit.Below W0.heap.size W0 wr) ∧ Hid (∀ i, i < k → 1 ≤ i → levelOk l i = true)) (fun i _ _ _ => 6 - (intOf i).toNat)
      case atStart => exact ⟨1, rfl, Nat.le_refl _, by omega, HBw, Lib.hid (fun k hk h => by omega)⟩
      case round =>
        obtain ⟨wx, hwx0⟩ : ∃ x, x = wr := ⟨_, rfl⟩
        subst hwx0
        obtain ⟨k, rfl, hk1, hk6, HBx, HLV⟩ := hrel
        have hV := (HBx.out.block w.heap.size hWl).trans HV0.out
        have cv0 := cell_of_heap hV 0
        have cv1 := cell_of_heap hV 1
        have cv2 := cell_of_heap hV 2
        have cv3 := cell_of_heap hV 3
        have hwx : W0.heap.size ≤ wx.heap.size := HBx.out.size
        clear hV
        by_cases hlt6 : k < 6
        · have hRx : Rds wx 5 (.slice A l.length c) l.length (metaV l) := HR.out.keep fun q hq => (HBx.out.block q (by have := HV.out q hq; omega)).trans (HB0.out.block q (HV.out q hq))
          have hcon := of_calls wx (k : Int) (by omega) hRx (fun q hq => by have := HV.out q hq; omega) HBD.out (by omega) lg nx sq
          have hlen : (ofL (k : Int) l).length = (sortCf lowCf (ofL (k : Int) l)).length := (sortCf_perm lowSWO (fun m hm => HBD.out m (List.mem_filter.1 hm).1)).length_eq.symm
          have hll : (ofL (k : Int) l).length ≤ l.length := ofL_length _ _
          have HLO := Lib.hid (show levelOk l k = apartL (sortCf lowCf (ofL (k : Int) l)) from rfl)
          rw [hlen] at hcon hll
          generalize sortCf lowCf (ofL (k : Int) l) = S at hcon hll HLO
          clear hlen hRx
          go_wp2_with fail
          refine hcon.mono ?_
          rintro e w1 ⟨v1, rfl, g1, g2, g3⟩
          obtain ⟨_, A1, c1, rfl, _⟩ := id g1.rds
          have HS := Lib.hid g1.rds
          have HSV := Lib.hid g1.lt
          have HB2 := Lib.hid (HBx.out.trans (g2.mono hwx))
          clear g1 g2 g3 hcon cv0 cv1 cv2 cv3
          have hw1 : W0.heap.size ≤ w1.heap.size := HB2.out.size
          go_wp2_with fail
          go_loopw [7] (fun i wr => ∃ j : Nat, i = .int .i64 ((j : Int) + 1) ∧ Hid (RowKit.Below w1.heap.size w1 wr) ∧ Hid (∀ i, i < j → apartAt S i = true) ∧ j ≤ S.length) (fun i _ => S.length - (intOf i).toNat)
          case atStart => exact ⟨0, rfl, Lib.hid (Below.refl _ _), Lib.hid (fun k hk => by omega), Nat.zero_le _⟩
          case round =>
            obtain ⟨wy, hwy0⟩ : ∃ x, x = wr := ⟨_, rfl⟩
            subst hwy0
            obtain ⟨j, rfl, HBy, HAP, hjS⟩ := hrel
            by_cases hj2 : (j : Int) + 1 < (S.length : Int)
            · cases A1 with
              | none =>
                obtain ⟨_, A', c', he, _, hAA, _⟩ := HS.out
                injection he with he _ _
                have := (hAA he.symm).1; omega
              | some a1 =>
                obtain ⟨bb, oo, ss⟩ := a1
                have hsp : ss = none := by obtain ⟨_, A', c', he, _, _, hcc⟩ := HS.out; injection he with he _ _; exact (hcc _ he.symm).1
                subst hsp
                have hRy : Rds wy 5 (.slice (some ⟨bb, oo, none⟩) S.length c1) S.length (metaV S) := HS.out.keep fun q hq => HBy.out.block q (HSV.out q hq)
                have hj0 : j < S.length := by omega
                have hj1 : j + 1 < S.length := by omega
                obtain ⟨p, hp⟩ : ∃ p, p = S[j] := ⟨_, rfl⟩
                obtain ⟨m, hm⟩ : ∃ p, p = S[j + 1] := ⟨_, rfl⟩
                have x3 := (meta_cells hRy hj0).2.2.2.1
                have y2 := (meta_cells hRy hj1).2.2.1
                rw [← hp] at x3
                rw [← hm] at y2
                have HAT := Lib.hid (show apartAt S j = Op.bytesLess p.high.toList m.low.toList by unfold apartAt; rw [hp, hm]; simp [hj0, hj1])
                have hwa : IntKind.i64.wrap ((j : Int) + 1 - 1) = (j : Int) := by rw [IntKind.wrap_i64]; omega
                have hn1 : ((j : Int) + 1).toNat = j + 1 := by omega
                have hp1 : (0 : Int) ≤ (j : Int) + 1 := by omega
                clear hRy hp hm
                cases hbl : Op.bytesLess p.high.toList m.low.toList with
                | true =>
                  have HT := Lib.hid (HAT.out.trans hbl)
                  go_wp2_with fail
                  go_quiet (fail)
                  go_wp2_with fail
                  go_roundw
                  case rel => exact ⟨j + 1, by rw [Int.natCast_add]; rfl, Lib.hid (belowDrew HBy.out nq), Lib.hid (below_snoc HAP.out HT.out), by omega⟩
                  case measure => simp [intOf]; omega
                | false =>
                  have HF := Lib.hid (show r = 1 by rw [HF1.out, if_pos (levels_false hk1 hlt6 (by rw [HLO.out]; exact apartL_false hj1 (HAT.out.trans hbl)))])
                  go_wp2_with fail
                  go_quiet (fail)
                  have HB9 := Lib.hid (HB0.out.trans ((HB2.out.trans ((belowDrew HBy.out nq).mono hw1)).mono (by omega)))
                  go_wp2_with fail
                  go_ret
                  exact ⟨by rw [HF.out]; rfl, HB9.out⟩
            · have HT := Lib.hid (show levelOk l k = true by rw [HLO.out]; exact all_range fun i hi => HAP.out i (by omega))
              have HB9 := Lib.hid (HB2.out.trans (HBy.out.mono hw1))
              go_wp2_with fail
              go_roundw
              case rel => exact ⟨k + 1, by rw [Int.natCast_add]; rfl, by omega, by omega, HB9, Lib.hid (fun i hi h1 => by
                rcases Nat.lt_or_ge i k with h | h
                · exact HLV.out i h h1
                · obtain rfl : i = k := by omega
                  exact HT.out)⟩
              case measure => simp [intOf]; omega
        · have HF := Lib.hid (show r = 0 by rw [HF1.out, if_neg (by rw [levels_true HLV.out (by omega)]; simp)])
          have HB9 := Lib.hid (HB0.out.trans (HBx.out.mono (by omega)))
          go_wp2_with fail
          go_ret
          exact ⟨by rw [HF.out]; rfl, HB9.out⟩

theorem verCheck_calls (w : World) {v : Value} {l : List Meta} (hr : Rds w 5 v l.length (metaV l)) (hv : ∀ k, v.ownBlock = some k → k < w.heap.size) (hb : ∀ m ∈ l, boundM m) (lg nx : Int) (sq : Nat) (hn : l.length ≤ 1000000) :
    Calls Tryd.prog 49 #[.agg #[v, .int .i64 lg, .int .i64 nx, .int .u64 sq]] w fun e w' => e = .returned (.int .i64 (checkR ⟨l, lg, nx, sq⟩)) ∧ RowKit.Below w.heap.size w w' := by
  cases h : headOk lg nx sq with
  | false =>
    have e : checkR ⟨l, lg, nx, sq⟩ = 1 := by unfold checkR; rw [if_pos h]
    rw [e]
    obtain ⟨_, A, c, rfl, _⟩ := hr
    exact verCheck_head w A _ c lg nx sq h
  | true =>
    by_cases hn2 : 1000 < l.length
    · have e : checkR ⟨l, lg, nx, sq⟩ = 3 := by unfold checkR; simp only; rw [h, if_neg (by simp), if_pos hn2]
      rw [e]
      obtain ⟨_, A, c, rfl, _⟩ := hr
      exact verCheck_many w A _ c lg nx sq h hn2 hn
    · exact verCheck_main w hr hv hb lg nx sq h (by omega)

end Go.Proofs.YtebkmpgmcldeoaaDoor
