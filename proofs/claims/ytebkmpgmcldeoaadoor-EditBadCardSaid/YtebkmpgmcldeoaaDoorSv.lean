/- Man.Do of a list that is not open yet; of none. -/
import Derived.Test.YtebkmpgmcldeoaaDoorSu
import Derived.Deep.RegionLaw
namespace Go.Proofs.YtebkmpgmcldeoaaDoor
open Go Go.Proofs Go.RowKit Go.Sort
set_option linter.unusedVariables false

def doR (p : PD) (n : Nat) (v : VersP) (x : EditP) : PD × Int :=
  if (applyR v x).2 ≠ 0 then (p, (applyR v x).2) else if p.down = true then (p, 10) else freshR p n (applyR v x).1

/-- what a call of Do leaves, of a list that was not open -/
structure DoOut (w : World) (d mb : Nat) (F : Nat → Prop) (n : Nat) (fv0 : Value) (v0 v : VersP) (r : PD × Int) (e : Ending) (w' : World) : Prop where
  ret : e = .returned (.int .i64 r.2)
  rest : ∃ G, DK w' d G r.1 ∧ Keep (fun k => F k ∨ k = mb) w w' ∧ (∀ k, k < w.heap.size → ¬ F k → ¬ G k) ∧
    (r.2 ≠ 0 → w'.heap[mb]? = some (.cells (manCells d n fv0 v0 false) 64 (0, 0))) ∧
    (r.2 = 0 → ∃ fv, ManAt w' mb d ((n + 1 : Nat) : Int) fv v true ∧ ∀ k, fv.ownBlock = some k → w.heap.size ≤ k ∧ ¬ G k)

theorem okM_enc {m : Meta} (h : okM m = true) : encM m := by
  unfold okM at h
  rw [decide_eq_true_eq] at h
  unfold encM
  omega
theorem headOk_bounds {lg nx : Int} {sq : Nat} (h : headOk lg nx sq = true) : (1 ≤ lg ∧ lg ≤ 1073741824) ∧ (1 ≤ nx ∧ nx ≤ 1073741824) ∧ sq ≤ 72057594037927935 := by
  unfold headOk at h
  rw [decide_eq_true_eq] at h
  omega

set_option maxRecDepth 100000 in
theorem do_nil (w : World) (a b : Value) (x y : Int) (z : Nat) : Calls Tryd.prog 13 #[.pointer none, .agg #[.slice none 0 0, .slice none 0 0, .int .i64 0, .int .i64 0, .int .u64 0]] w fun e w' => e = .returned (.int .i64 1) ∧ RowKit.Below w.heap.size w w' := by
  have HB := Lib.hid (((Below.refl w.heap.size w).alloc (Nat.le_refl _) (.cells #[.pointer none] 30)).alloc (by simp) (.cells #[.slice none 0 0, .slice none 0 0, .int .i64 0, .int .i64 0, .int .u64 0] 46))
  go_enter Tryd.func13, Tryd.ntmps13
  go_wp2
  go_ret
  exact ⟨rfl, HB.out⟩

set_option maxHeartbeats 4000000 in
set_option maxRecDepth 100000 in
theorem do_calls (w : World) (hG : Globs w) {d mb n : Nat} {F : Nat → Prop} {p : PD} {fv0 : Value} {v0 : VersP} {av dv : Value} {x : EditP} (hD : DK w d F p) (hF0 : ¬ F 0) (hF1 : ¬ F 1) (hmF : ¬ F mb)
    (hM : ManAt w mb d n fv0 v0 false) (hft : fitV v0) (hfF : ∀ k, fv0.ownBlock = some k → ¬ F k) (hra : Rds w 5 av x.add.length (metaV x.add)) (hrd : Rds w 1 dv x.del.length (intV x.del)) (hav : ∀ k, av.ownBlock = some k → k < w.heap.size) (hdv : ∀ k, dv.ownBlock = some k → k < w.heap.size)
    (hba : ∀ m ∈ x.add, boundM m) (hal : x.add.length ≤ 100000) (hdl : x.del.length ≤ 100000) (hn : n ≤ 1073741824)
    (hren : ∀ (W : World) (G : Nat → Prop), DiskIs W d G (freshD p n (applyR v0 x).1) → Calls Tryd.prog 56 #[.pointer (some ⟨d, 0, none⟩), .string soonS, .string nowS] W fun e W' => e = .returned (.int .i64 ((freshD p n (applyR v0 x).1).renameR soonS nowS).2) ∧ Stp G d W W' ((freshD p n (applyR v0 x).1).renameR soonS nowS).1) :
    Calls Tryd.prog 13 #[.pointer (some ⟨mb, 0, none⟩), .agg #[av, dv, .int .i64 x.log, .int .i64 x.next, .int .u64 x.seq]] w (DoOut w d mb F n fv0 v0 (applyR v0 x).1 (doR p n v0 x)) := by
  obtain ⟨add, del, elg, enx, esq⟩ := x
  obtain ⟨fl, lg, nx, sq⟩ := v0
  simp only at hra hrd hba hal hdl ⊢
  obtain ⟨-, -, m2, m3, m4, m5, m6⟩ := hM.cells
  have m0 := hM.cells.1
  obtain ⟨hMh, hMr, hMv⟩ := hM
  simp only at m2 m3 m4 m5 hMr
  obtain ⟨-, Af, cf, hfv, -⟩ := id hMr
  subst hfv
  obtain ⟨-, Aa, ca, hav', -⟩ := id hra
  subst hav'
  obtain ⟨-, Ad, cd, hdv', -⟩ := id hrd
  subst hdv'
  have hmbw := lt_of_heap hMh
  obtain ⟨V1, hV1⟩ : ∃ x, x = w.alloc (.cells #[.pointer (some ⟨mb, 0, none⟩)] 30) := ⟨_, rfl⟩
  have z1 : V1.heap.size = w.heap.size + 1 := by rw [hV1]; simp
  have b1 : RowKit.Below w.heap.size w V1 := by rw [hV1]; exact (Below.refl _ _).alloc (Nat.le_refl _) _
  have g1 : V1.heap[w.heap.size]? = some (.cells #[.pointer (some ⟨mb, 0, none⟩)] 30 (0, 0)) := by rw [hV1]; exact heap_alloc_new w _
  obtain ⟨W0, hW0⟩ : ∃ x, x = V1.alloc (.cells #[.slice Aa add.length ca, .slice Ad del.length cd, .int .i64 elg, .int .i64 enx, .int .u64 esq] 46) := ⟨_, rfl⟩
  have z2 : W0.heap.size = w.heap.size + 2 := by rw [hW0]; simp [z1]
  have HB0 := Lib.hid (show RowKit.Below w.heap.size w W0 by rw [hW0]; exact b1.alloc (by omega) _)
  have HE0 := Lib.hid (show W0.heap[w.heap.size + 1]? = some (.cells #[.slice Aa add.length ca, .slice Ad del.length cd, .int .i64 elg, .int .i64 enx, .int .u64 esq] 46 (0, 0)) by rw [hW0, ← z1]; exact heap_alloc_new V1 _)
  have HP0 := Lib.hid (show W0.heap[w.heap.size]? = some (.cells #[.pointer (some ⟨mb, 0, none⟩)] 30 (0, 0)) by rw [hW0, Below.heap_alloc _ _ _ (by omega)]; exact g1)
  have hWl : w.heap.size + 2 ≤ W0.heap.size := by omega
  have HW0 := Lib.hid (show (w.alloc (.cells #[.pointer (some ⟨mb, 0, none⟩)] 30)).alloc (.cells #[.slice Aa add.length ca, .slice Ad del.length cd, .int .i64 elg, .int .i64 enx, .int .u64 esq] 46) = W0 by rw [hW0, hV1])
  have HM0 := Lib.hid ((HB0.out.block mb hmbw).trans hMh)
  have HFT := Lib.hid hft
  have HD := Lib.hid hD
  have HG := Lib.hid hG
  have HMH := Lib.hid hMh
  have HNF := Lib.hid hmF
  have HREN := Lib.hid hren
  have HF0 := Lib.hid hF0
  have HF1 := Lib.hid hF1
  have hfl : fl.length ≤ 1000 := hft.1
  have hap := fun (W : World) (hW : RowKit.Below W0.heap.size W0 W) => apply_calls W (hMr.keep (w' := W) fun q hq => (hW.block q (Nat.lt_of_lt_of_le (hMv q hq).1 HB0.out.size)).trans (HB0.out.block q (hMv q hq).1)) (hra.keep (w' := W) fun q hq => (hW.block q (Nat.lt_of_lt_of_le (hav q hq) HB0.out.size)).trans (HB0.out.block q (hav q hq))) (hrd.keep (w' := W) fun q hq => (hW.block q (Nat.lt_of_lt_of_le (hdv q hq) HB0.out.size)).trans (HB0.out.block q (hdv q hq)))
    (fun q hq => Nat.lt_of_lt_of_le (Nat.lt_of_lt_of_le (hMv q hq).1 HB0.out.size) hW.size) (fun q hq => Nat.lt_of_lt_of_le (Nat.lt_of_lt_of_le (hav q hq) HB0.out.size) hW.size) (fun q hq => Nat.lt_of_lt_of_le (Nat.lt_of_lt_of_le (hdv q hq) HB0.out.size) hW.size) hft.2 hba (Nat.le_trans hfl (by omega)) hal hdl lg nx elg enx sq esq
  have HAF := Lib.hid (applyR_fit (v := ⟨fl, lg, nx, sq⟩) (e := ⟨add, del, elg, enx, esq⟩))
  have HDR := Lib.hid (show doR p n ⟨fl, lg, nx, sq⟩ ⟨add, del, elg, enx, esq⟩ = if (applyR ⟨fl, lg, nx, sq⟩ ⟨add, del, elg, enx, esq⟩).2 ≠ 0 then (p, (applyR ⟨fl, lg, nx, sq⟩ ⟨add, del, elg, enx, esq⟩).2) else if p.down = true then (p, 10) else freshR p n (applyR ⟨fl, lg, nx, sq⟩ ⟨add, del, elg, enx, esq⟩).1 from rfl)
  generalize doR p n ⟨fl, lg, nx, sq⟩ ⟨add, del, elg, enx, esq⟩ = R at HDR ⊢
  generalize applyR ⟨fl, lg, nx, sq⟩ ⟨add, del, elg, enx, esq⟩ = AR at hap HAF HDR HREN ⊢
  obtain ⟨⟨xl, xlg, xnx, xsq⟩, x2⟩ := AR
  simp only at hap HAF HDR HREN ⊢
  have HAP := Lib.hid hap
  clear hap hMh hMr hMv hra hrd hav hdv hft hD hG hren hF0 hF1 hmF hba z1 z2 b1 g1 hV1 hW0 hfF
  clear V1
  go_enter Tryd.func13, Tryd.ntmps13
  clear m0 m2 m3 m4 m5 m6
  go_upto_region 3 with fail
  rw [HW0.out]
  have n1 : W0.cell? ⟨w.heap.size, 0, none⟩ = some (.pointer (some ⟨mb, 0, none⟩)) := cell_of_heap HP0.out 0
  have n2 : W0.cell? ⟨mb, 2, none⟩ = some (.slice Af fl.length cf) := cell_of_heap HM0.out 2
  have n3 : W0.cell? ⟨mb, 3, none⟩ = some (.int .i64 lg) := cell_of_heap HM0.out 3
  have n4 : W0.cell? ⟨mb, 4, none⟩ = some (.int .i64 nx) := cell_of_heap HM0.out 4
  have n5 : W0.cell? ⟨mb, 5, none⟩ = some (.int .u64 sq) := cell_of_heap HM0.out 5
  have e0 := cell_of_heap HE0.out 0
  have e1 := cell_of_heap HE0.out 1
  have e2 := cell_of_heap HE0.out 2
  have e3 := cell_of_heap HE0.out 3
  have e4 := cell_of_heap HE0.out 4
  obtain ⟨W0a, hW0a⟩ : ∃ x, x = W0.alloc (.cells #[.slice none 0 0, .int .i64 0, .int .i64 0, .int .u64 0] 37) := ⟨_, rfl⟩
  have HBa := Lib.hid (show RowKit.Below W0.heap.size W0 W0a by rw [hW0a]; exact (Below.refl _ _).alloc (Nat.le_refl _) _)
  have HZa := Lib.hid (show W0a.heap[W0.heap.size]? = some (.cells #[.slice none 0 0, .int .i64 0, .int .i64 0, .int .u64 0] 37 (0, 0)) by rw [hW0a]; exact heap_alloc_new W0 _)
  have hza : W0.heap.size < W0a.heap.size := lt_of_heap HZa.out
  have HAP1 := Lib.hid (HAP.out W0.drew ⟨rfl, rfl, rfl, Nat.le_refl _, fun _ _ => rfl⟩)
  have HAP2 := Lib.hid (HAP.out (W0.alloc (.cells #[.slice none 0 0, .int .i64 0, .int .i64 0, .int .u64 0] 37)).drew (by rw [← hW0a]; exact ⟨HBa.out.os, HBa.out.tape, HBa.out.output, HBa.out.size, HBa.out.block⟩))
  have HWA := Lib.hid hW0a
  clear hW0a
  go_cut [5, 6] (fun s5 s6 wx => ∃ (blk : Nat) (fv1 : Value), s5 = .pointer (some ⟨blk, 0, none⟩) ∧ s6 = .int .i64 x2 ∧ Hid (wx.heap[blk]? = some (.cells #[fv1, .int .i64 xlg, .int .i64 xnx, .int .u64 xsq] 37 (0, 0))) ∧ Hid (Rds wx 5 fv1 xl.length (metaV xl)) ∧ Hid (∀ k, fv1.ownBlock = some k → W0.heap.size ≤ k ∧ k < wx.heap.size) ∧ Hid (RowKit.Below W0.heap.size W0 wx))
  case first =>
    have l1 : w.heap.size < W0.heap.size := by omega
    have l2 : w.heap.size + 1 < W0.heap.size := by omega
    have l3 : mb < W0.heap.size := by omega
    have l4 : ¬ w.heap.size = W0.heap.size := by omega
    have l5 : ¬ w.heap.size + 1 = W0.heap.size := by omega
    have l6 : ¬ mb = W0.heap.size := by omega
    go_region_law (first
      | (go_simp
         go_at_call 29
         have hq := HAP1.out
         have tokA : True := trivial
         with_reducible refine hq.mono ?_
         rintro e w1 ⟨v10, rfl, g1, g2, g3⟩
         obtain ⟨-, A10, c10, hv10, -⟩ := id g1.rds
         subst hv10
         have HO1 := Lib.hid g1
         have HB1 := Lib.hid (show RowKit.Below W0.heap.size W0 w1 from ⟨g2.os, g2.tape, g2.output, g2.size, g2.block⟩)
         have HV1 := Lib.hid (show ∀ k, (Value.slice A10 xl.length c10).ownBlock = some k → W0.heap.size ≤ k from g3)
         clear hq g1 g2 g3)
      | (go_simp
         go_at_call 29
         have hq := HAP2.out
         have tokB : True := trivial
         with_reducible refine hq.mono ?_
         rintro e w1 ⟨v10, rfl, g1, g2, g3⟩
         obtain ⟨-, A10, c10, hv10, -⟩ := id g1.rds
         subst hv10
         have HO1 := Lib.hid g1
         rw [← HWA.out] at g2 g3
         have HB1a := Lib.hid (show RowKit.Below W0a.heap.size W0a w1 from ⟨g2.os, g2.tape, g2.output, g2.size, g2.block⟩)
         have HB1 := Lib.hid (HBa.out.trans (HB1a.out.mono (by omega)))
         have HV1 := Lib.hid (show ∀ k, (Value.slice A10 xl.length c10).ownBlock = some k → W0.heap.size < k from fun k hk => Nat.lt_of_lt_of_le hza (g3 k hk))
         have HZ1 := Lib.hid ((HB1a.out.block W0.heap.size hza).trans HZa.out)
         have r0 := cell_of_heap HZ1.out 0
         have r1 := cell_of_heap HZ1.out 1
         have r2 := cell_of_heap HZ1.out 2
         have r3 := cell_of_heap HZ1.out 3
         have s0 := free_of_heap HZ1.out 0
         have s1 := free_of_heap HZ1.out 1
         have s2 := free_of_heap HZ1.out 2
         have s3 := free_of_heap HZ1.out 3
         clear hq g1 g2 g3))
    all_goals
      go_wp2_with fail
      go_meet
      case rel => first
        | (have _t := tokA; exact ⟨w1.heap.size, _, rfl, rfl, Lib.hid (heap_alloc_new w1 _), Lib.hid (HO1.out.rds.keep fun q hq => Below.heap_alloc _ _ _ (HO1.out.lt q hq)), Lib.hid (fun k hk => ⟨HV1.out k hk, Nat.lt_of_lt_of_le (HO1.out.lt k hk) (by simp)⟩), Lib.hid (HB1.out.alloc HB1.out.size _)⟩)
        | (have _t := tokB
           have K9 := ((((Keep.refl (· = W0.heap.size) w1).set _ W0.heap.size 0 rfl (.slice A10 xl.length c10)).set _ W0.heap.size 1 rfl (.int .i64 xlg)).set _ W0.heap.size 2 rfl (.int .i64 xnx)).set _ W0.heap.size 3 rfl (.int .u64 xsq)
           exact ⟨W0.heap.size, _, rfl, rfl, Lib.hid (heap_setCell_same (heap_setCell_same (heap_setCell_same (heap_setCell_same HZ1.out 0 _) 1 _) 2 _) 3 _), Lib.hid (HO1.out.rds.keep fun q hq => K9.block q (HO1.out.lt q hq) (fun e => by have := HV1.out q hq; omega)), Lib.hid (fun k hk => ⟨Nat.le_of_lt (HV1.out k hk), Nat.lt_of_lt_of_le (HO1.out.lt k hk) K9.size⟩), Lib.hid (HB1.out.trans (K9.below (fun k e => by omega) HB1.out.size))⟩)
  case rest =>
  obtain ⟨blk, fv1, rfl, rfl, HVb, HRf, HLf, HBc⟩ := hcut
  clear n1 n2 n3 n4 n5 e0 e1 e2 e3 e4
  have hW0c := HBc.out.size
  have HBw := Lib.hid (HB0.out.trans (HBc.out.mono (by omega)))
  have HPc := Lib.hid ((HBc.out.block w.heap.size (by omega)).trans HP0.out)
  have HMc := Lib.hid ((HBc.out.block mb (by omega)).trans HM0.out)
  have HDc := Lib.hid (HD.out.below HBw.out)
  have hplain : ∀ (r : Int), r ≠ 0 → R = (p, r) → DoOut w d mb F n (.slice Af fl.length cf) ⟨fl, lg, nx, sq⟩ ⟨xl, xlg, xnx, xsq⟩ R (.returned (.int .i64 r)) wc := fun r hr e => by
    rw [e]
    exact ⟨rfl, F, HDc.out, (Keep.of_below (F := fun _ => False) HBw.out).mono (fun k h => h.elim), fun k _ hn => hn, fun _ => HMc.out, fun h => absurd h hr⟩
  have HPL := Lib.hid hplain
  clear hplain
  by_cases hx2 : x2 = 0
  · have hxb : (x2 != 0) = false := by rw [bne_eq_false_iff_eq]; exact hx2
    obtain ⟨hck, hfit⟩ := HAF.out hx2
    have HDR1 := Lib.hid (HDR.out.trans (if_neg (by simp [hx2])))
    have HCK := Lib.hid hck
    have HFIT := Lib.hid hfit
    have n1 : wc.cell? ⟨w.heap.size, 0, none⟩ = some (.pointer (some ⟨mb, 0, none⟩)) := cell_of_heap HPc.out 0
    have n0 : wc.cell? ⟨mb, 0, none⟩ = some (.pointer (some ⟨d, 0, none⟩)) := cell_of_heap HMc.out 0
    have n6 : wc.cell? ⟨mb, 6, none⟩ = some (.bool false) := cell_of_heap HMc.out 6
    have hdc := down_calls HDc.out.is
    clear hx2 hck hfit HDR HAF
    go_wp2_with fail
    refine hdc.mono ?_
    rintro e w' ⟨rfl, rfl⟩
    clear hdc
    cases hdn : p.down with
    | true =>
      have HF := Lib.hid (show R = (p, 10) by rw [HDR1.out]; exact if_pos hdn)
      go_wp2_with fail
      go_ret
      exact HPL.out 10 (by omega) HF.out
    | false =>
      have HF := Lib.hid (show R = freshR p n ⟨xl, xlg, xnx, xsq⟩ by rw [HDR1.out]; exact if_neg (by simp [hdn]))
      have v0 := cell_of_heap HVb.out 0
      have v1 := cell_of_heap HVb.out 1
      have v2 := cell_of_heap HVb.out 2
      have v3 := cell_of_heap HVb.out 3
      have hbd := headOk_bounds (checkR_ok HCK.out).1
      have hfr := fresh_calls wc (HG.out.below HBw.out) (n := n) (fv0 := .slice Af fl.length cf) (v0 := ⟨fl, lg, nx, sq⟩) (v := ⟨xl, xlg, xnx, xsq⟩) (op := false) HDc.out HF0.out HF1.out HNF.out HMc.out HRf.out (fun k hk => (HLf.out k hk).2) HFIT.out.1 (fun m hm => okM_enc (files_ok HCK.out m hm)) (by simp only at hbd ⊢; omega) (by simp only at hbd ⊢; omega) (by simp only at hbd ⊢; omega) hn HREN.out
      clear hbd hdn
      go_wp2_with fail
      refine hfr.mono ?_
      rintro e w9 ⟨rfl, G9, k1, k2, k3, k4⟩
      have HK1 := Lib.hid k1
      have HK2 := Lib.hid k2
      have HK3 := Lib.hid k3
      have HK4 := Lib.hid k4
      clear k1 k2 k3 k4 hfr
      go_wp2_with fail
      go_ret
      have hsz : w.heap.size ≤ wc.heap.size := HBw.out.size
      have hfar : ∀ k, fv1.ownBlock = some k → ¬ F k ∧ k ≠ mb := fun k hk => ⟨fun hf => by have := HD.out.lt k hf; have := (HLf.out k hk).1; omega, by have := (HLf.out k hk).1; omega⟩
      rw [HF.out]
      refine ⟨rfl, G9, HK1.out, ((Keep.of_below (F := fun _ => False) HBw.out).mono (fun k h => h.elim)).trans HK2.out, fun k hk hn => HK3.out k (by omega) hn, fun h => ?_, fun h => ?_⟩
      · have := HK4.out; rw [if_neg h] at this; exact this
      · have h4 := HK4.out
        rw [if_pos h] at h4
        exact ⟨fv1, ⟨h4, HRf.out.keep fun k hk => HK2.out.block k (HLf.out k hk).2 (fun hh => hh.elim (hfar k hk).1 (hfar k hk).2), fun k hk => ⟨Nat.lt_of_lt_of_le (HLf.out k hk).2 HK2.out.size, (hfar k hk).2⟩⟩, fun k hk => ⟨by have := (HLf.out k hk).1; omega, HK3.out k (HLf.out k hk).2 (hfar k hk).1⟩⟩
  · have hxb : (x2 != 0) = true := by rw [bne_iff_ne]; exact hx2
    have HF := Lib.hid (show R = (p, x2) by rw [HDR.out]; exact if_pos hx2)
    have HNZ := Lib.hid hx2
    clear hx2
    go_wp2_with fail
    go_ret
    exact HPL.out x2 HNZ.out HF.out

end Go.Proofs.YtebkmpgmcldeoaaDoor
