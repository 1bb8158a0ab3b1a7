/- Version.Apply. -/
import Derived.Test.YtebkmpgmcldeoaaDoorSj2
import Derived.Test.YtebkmpgmcldeoaaDoorSf
import Derived.Test.YtebkmpgmcldeoaaDoorSn
import Derived.Deep.Cut
import Derived.Deep.CutRange
import Derived.Deep.DeepCutAuto
namespace Go.Proofs.YtebkmpgmcldeoaaDoor
open Go Go.Proofs Go.RowKit Go.Sort
set_option linter.unusedVariables false

def keptL (del : List Int) (l : List Meta) : List Meta := l.filter fun m => !del.contains m.num
theorem keptL_length (del : List Int) (l : List Meta) : (keptL del l).length ≤ l.length := List.length_filter_le _ _
def upI (a b : Int) : Int := if 0 < a then a else b
def upN (a b : Nat) : Nat := if 0 < a then a else b
/-- does an edit not fit a version? -/
def applyBad (v : VersP) (e : EditP) : Bool :=
  decide (v.files.length ≠ (keptL e.del v.files).length + e.del.length ∨ upI e.log v.log < v.log ∨ upI e.next v.next < v.next ∨ upN e.seq v.seq < v.seq)
def appliedV (v : VersP) (e : EditP) : VersP := ⟨sortCf numCf (keptL e.del v.files ++ e.add), upI e.log v.log, upI e.next v.next, upN e.seq v.seq⟩
def zeroV : VersP := ⟨[], 0, 0, 0⟩
def applyR (v : VersP) (e : EditP) : VersP × Int :=
  if applyBad v e = true then (zeroV, 1) else if checkR (appliedV v e) = 0 then (appliedV v e, 0) else (zeroV, checkR (appliedV v e))

set_option maxHeartbeats 4000000 in
set_option maxRecDepth 100000 in
theorem apply_calls (w : World) {v av dv : Value} {l add : List Meta} {del : List Int} (hr : Rds w 5 v l.length (metaV l)) (hra : Rds w 5 av add.length (metaV add)) (hrd : Rds w 1 dv del.length (intV del))
    (hv : ∀ k, v.ownBlock = some k → k < w.heap.size) (hav : ∀ k, av.ownBlock = some k → k < w.heap.size) (hdv : ∀ k, dv.ownBlock = some k → k < w.heap.size)
    (hb : ∀ m ∈ l, boundM m) (hba : ∀ m ∈ add, boundM m) (hl : l.length ≤ 100000) (hal : add.length ≤ 100000) (hdl : del.length ≤ 100000) (lg nx elg enx : Int) (sq esq : Nat) :
    Calls Tryd.prog 29 #[.agg #[v, .int .i64 lg, .int .i64 nx, .int .u64 sq], .agg #[av, dv, .int .i64 elg, .int .i64 enx, .int .u64 esq]] w fun e w' => ∃ v', e = .returned (.tuple #[.agg #[v', .int .i64 (applyR ⟨l, lg, nx, sq⟩ ⟨add, del, elg, enx, esq⟩).1.log, .int .i64 (applyR ⟨l, lg, nx, sq⟩ ⟨add, del, elg, enx, esq⟩).1.next, .int .u64 (applyR ⟨l, lg, nx, sq⟩ ⟨add, del, elg, enx, esq⟩).1.seq], .int .i64 (applyR ⟨l, lg, nx, sq⟩ ⟨add, del, elg, enx, esq⟩).2]) ∧
      Own w' 42 5 v' (applyR ⟨l, lg, nx, sq⟩ ⟨add, del, elg, enx, esq⟩).1.files.length (metaV (applyR ⟨l, lg, nx, sq⟩ ⟨add, del, elg, enx, esq⟩).1.files) ∧ RowKit.Below w.heap.size w w' ∧ ∀ k, v'.ownBlock = some k → w.heap.size ≤ k := by
  obtain ⟨lg1, hlg1⟩ : ∃ x, x = upI elg lg := ⟨_, rfl⟩
  obtain ⟨nx1, hnx1⟩ : ∃ x, x = upI enx nx := ⟨_, rfl⟩
  obtain ⟨sq1, hsq1⟩ : ∃ x, x = upN esq sq := ⟨_, rfl⟩
  have HRR := Lib.hid (show applyR ⟨l, lg, nx, sq⟩ ⟨add, del, elg, enx, esq⟩ = if decide (l.length ≠ (keptL del l).length + del.length ∨ lg1 < lg ∨ nx1 < nx ∨ sq1 < sq) = true then (zeroV, 1) else
      if checkR ⟨sortCf numCf (keptL del l ++ add), lg1, nx1, sq1⟩ = 0 then (⟨sortCf numCf (keptL del l ++ add), lg1, nx1, sq1⟩, 0) else (zeroV, checkR ⟨sortCf numCf (keptL del l ++ add), lg1, nx1, sq1⟩) by
    rw [hlg1, hnx1, hsq1]; rfl)
  generalize applyR ⟨l, lg, nx, sq⟩ ⟨add, del, elg, enx, esq⟩ = R at HRR ⊢
  obtain ⟨-, A, c, rfl, hc, hA, -⟩ := id hr
  obtain ⟨-, Aa, ca, rfl, hca, -⟩ := id hra
  obtain ⟨-, Ad, cd, rfl, hcd, -⟩ := id hrd
  have HR := Lib.hid hr
  have HRA := Lib.hid hra
  have HRD := Lib.hid hrd
  have HV := Lib.hid hv
  have HAV := Lib.hid hav
  have HDV := Lib.hid hdv
  have HB := Lib.hid hb
  have HBA := Lib.hid hba
  have HLG := Lib.hid hlg1
  have HNX := Lib.hid hnx1
  have HSQ := Lib.hid hsq1
  clear hr hra hrd hv hav hdv hb hba hlg1 hnx1 hsq1
  obtain ⟨V0, hV0⟩ : ∃ x, x = w.alloc (.cells #[.slice A l.length c, .int .i64 lg, .int .i64 nx, .int .u64 sq] 37) := ⟨_, rfl⟩
  have g0 : V0.heap[w.heap.size]? = some (.cells #[.slice A l.length c, .int .i64 lg, .int .i64 nx, .int .u64 sq] 37 (0, 0)) := by rw [hV0]; exact heap_alloc_new w _
  have z0 : V0.heap.size = w.heap.size + 1 := by rw [hV0]; simp
  have b0 : RowKit.Below w.heap.size w V0 := by rw [hV0]; exact (Below.refl _ _).alloc (Nat.le_refl _) _
  obtain ⟨V1, hV1⟩ : ∃ x, x = V0.alloc (.cells #[.slice Aa add.length ca, .slice Ad del.length cd, .int .i64 elg, .int .i64 enx, .int .u64 esq] 46) := ⟨_, rfl⟩
  have g1 : V1.heap[w.heap.size + 1]? = some (.cells #[.slice Aa add.length ca, .slice Ad del.length cd, .int .i64 elg, .int .i64 enx, .int .u64 esq] 46 (0, 0)) := by rw [hV1, ← z0]; exact heap_alloc_new V0 _
  have z1 : V1.heap.size = w.heap.size + 2 := by rw [hV1]; simp [z0]
  obtain ⟨V2, hV2⟩ : ∃ x, x = V1.alloc (.cells #[.slice none 0 0, .int .i64 0, .int .i64 0, .int .u64 0] 37) := ⟨_, rfl⟩
  have g2 : V2.heap[w.heap.size + 2]? = some (.cells #[.slice none 0 0, .int .i64 0, .int .i64 0, .int .u64 0] 37 (0, 0)) := by rw [hV2, ← z1]; exact heap_alloc_new V1 _
  have z2 : V2.heap.size = w.heap.size + 3 := by rw [hV2]; simp [z1]
  obtain ⟨W0, hW0⟩ : ∃ x, x = V2.alloc (.cells #[.slice none 0 0, .int .i64 lg, .int .i64 nx, .int .u64 sq] 37) := ⟨_, rfl⟩
  have g3 : W0.heap[w.heap.size + 3]? = some (.cells #[.slice none 0 0, .int .i64 lg, .int .i64 nx, .int .u64 sq] 37 (0, 0)) := by rw [hW0, ← z2]; exact heap_alloc_new V2 _
  have z3 : W0.heap.size = w.heap.size + 4 := by rw [hW0]; simp [z2]
  have E3 := Lib.hid g3
  have E2 := Lib.hid (show W0.heap[w.heap.size + 2]? = some (.cells #[.slice none 0 0, .int .i64 0, .int .i64 0, .int .u64 0] 37 (0, 0)) by rw [hW0, Below.heap_alloc _ _ _ (by omega)]; exact g2)
  have E1 := Lib.hid (show W0.heap[w.heap.size + 1]? = some (.cells #[.slice Aa add.length ca, .slice Ad del.length cd, .int .i64 elg, .int .i64 enx, .int .u64 esq] 46 (0, 0)) by rw [hW0, Below.heap_alloc _ _ _ (by omega), hV2, Below.heap_alloc _ _ _ (by omega)]; exact g1)
  have E0 := Lib.hid (show W0.heap[w.heap.size]? = some (.cells #[.slice A l.length c, .int .i64 lg, .int .i64 nx, .int .u64 sq] 37 (0, 0)) by rw [hW0, Below.heap_alloc _ _ _ (by omega), hV2, Below.heap_alloc _ _ _ (by omega), hV1, Below.heap_alloc _ _ _ (by omega)]; exact g0)
  have HB0 := Lib.hid (show RowKit.Below w.heap.size w W0 by
    rw [hW0, hV2, hV1]; exact ((b0.alloc (by omega) _).alloc (by simp; omega) _).alloc (by simp; omega) _)
  have hWl : w.heap.size + 4 ≤ W0.heap.size := by omega
  have hWe : W0.heap.size ≤ w.heap.size + 4 := by omega
  have HW0 := Lib.hid (show ((((w.alloc (.cells #[.slice A l.length c, .int .i64 lg, .int .i64 nx, .int .u64 sq] 37)).alloc (.cells #[.slice Aa add.length ca, .slice Ad del.length cd, .int .i64 elg, .int .i64 enx, .int .u64 esq] 46)).alloc (.cells #[.slice none 0 0, .int .i64 0, .int .i64 0, .int .u64 0] 37)).alloc (.cells #[.slice none 0 0, .int .i64 lg, .int .i64 nx, .int .u64 sq] 37)) = W0 by rw [hW0, hV2, hV1, hV0])
  clear g0 g1 g2 g3 z0 z1 z2 z3 hV0 hV1 hV2 hW0 b0
  clear V0 V1 V2
  go_enter Tryd.func29, Tryd.ntmps29
  go_upto_if 20 with fail
  rw [HW0.out]
  have P3 := E3
  have E1c := E1
  have P0 := Lib.hid (Keep.refl (· = w.heap.size + 3) W0)
  have q1 := cell_of_heap E1c.out 2
  go_cut [] (fun wx => Hid (Keep (· = w.heap.size + 3) W0 wx) ∧ Hid (wx.heap[w.heap.size + 3]? = some (.cells #[.slice none 0 0, .int .i64 lg1, .int .i64 nx, .int .u64 sq] 37 (0, 0))))
  case first =>
    have q3 := cell_of_heap P3.out 1
    have f3 := free_of_heap P3.out 1
    by_cases hcd : 0 < elg
    · have HN := Lib.hid (show lg1 = elg by rw [HLG.out]; unfold upI; rw [if_pos hcd])
      have K3 := Lib.hid (P0.out.set _ (w.heap.size + 3) 1 rfl (.int .i64 elg))
      have R3 := Lib.hid (heap_setCell_same P3.out 1 (.int .i64 elg))
      go_wp2_with fail
      go_meet
      case rel => exact ⟨K3, by rw [HN.out]; exact R3⟩
    · have HN := Lib.hid (show lg1 = lg by rw [HLG.out]; unfold upI; rw [if_neg hcd])
      go_wp2_with fail
      go_meet
      case rel => exact ⟨P0, by rw [HN.out]; exact P3⟩
  case rest =>
  clear P0 P3 q1 E1c
  obtain ⟨P0, P3⟩ := hcut
  have E1c := Lib.hid ((P0.out.block (w.heap.size + 1) (by omega) (by omega)).trans E1.out)
  have q1 := cell_of_heap E1c.out 3
  go_upto_if 26 with fail
  go_cut [] (fun wx => Hid (Keep (· = w.heap.size + 3) W0 wx) ∧ Hid (wx.heap[w.heap.size + 3]? = some (.cells #[.slice none 0 0, .int .i64 lg1, .int .i64 nx1, .int .u64 sq] 37 (0, 0))))
  case first =>
    have q3 := cell_of_heap P3.out 2
    have f3 := free_of_heap P3.out 2
    by_cases hcd : 0 < enx
    · have HN := Lib.hid (show nx1 = enx by rw [HNX.out]; unfold upI; rw [if_pos hcd])
      have K3 := Lib.hid (P0.out.set _ (w.heap.size + 3) 2 rfl (.int .i64 enx))
      have R3 := Lib.hid (heap_setCell_same P3.out 2 (.int .i64 enx))
      go_wp2_with fail
      go_meet
      case rel => exact ⟨K3, by rw [HN.out]; exact R3⟩
    · have HN := Lib.hid (show nx1 = nx by rw [HNX.out]; unfold upI; rw [if_neg hcd])
      go_wp2_with fail
      go_meet
      case rel => exact ⟨P0, by rw [HN.out]; exact P3⟩
  case rest =>
  clear P0 P3 q1 E1c
  obtain ⟨P0, P3⟩ := hcut
  have E1c := Lib.hid ((P0.out.block (w.heap.size + 1) (by omega) (by omega)).trans E1.out)
  have q1 := cell_of_heap E1c.out 4
  go_upto_if 32 with fail
  go_cut [] (fun wx => Hid (Keep (· = w.heap.size + 3) W0 wx) ∧ Hid (wx.heap[w.heap.size + 3]? = some (.cells #[.slice none 0 0, .int .i64 lg1, .int .i64 nx1, .int .u64 sq1] 37 (0, 0))))
  case first =>
    have q3 := cell_of_heap P3.out 3
    have f3 := free_of_heap P3.out 3
    by_cases hcd : 0 < esq
    · have HN := Lib.hid (show sq1 = esq by rw [HSQ.out]; unfold upN; rw [if_pos hcd])
      have K3 := Lib.hid (P0.out.set _ (w.heap.size + 3) 3 rfl (.int .u64 esq))
      have R3 := Lib.hid (heap_setCell_same P3.out 3 (.int .u64 esq))
      go_wp2_with fail
      go_meet
      case rel => exact ⟨K3, by rw [HN.out]; exact R3⟩
    · have HN := Lib.hid (show sq1 = sq by rw [HSQ.out]; unfold upN; rw [if_neg hcd])
      go_wp2_with fail
      go_meet
      case rel => exact ⟨P0, by rw [HN.out]; exact P3⟩
  case rest =>
  clear P0 P3 q1 E1c
  obtain ⟨P0, P3⟩ := hcut
  have E1c := Lib.hid ((P0.out.block (w.heap.size + 1) (by omega) (by omega)).trans E1.out)
  clear HLG HNX HSQ
  have E0c := Lib.hid ((P0.out.block w.heap.size (by omega) (by omega)).trans E0.out)
  have q0 := cell_of_heap E0c.out 0
  have q01 := cell_of_heap E0c.out 1
  have q02 := cell_of_heap E0c.out 2
  have q03 := cell_of_heap E0c.out 3
  go_wp2_with fail
  clear q0 q01 q02 q03
  go_loopw [39, 7, 9] (fun i g _ wr => ∃ (j gn : Nat) (ms : List Meta) (fv : Value), i = .int .i64 j ∧ j ≤ l.length ∧ g = .int .i64 gn ∧ gn + ms.length = j ∧ Hid (ms = keptL del (l.take j)) ∧ Hid (wr.heap[w.heap.size + 3]? = some (.cells #[fv, .int .i64 lg1, .int .i64 nx1, .int .u64 sq1] 37 (0, 0))) ∧ Hid (Own wr 42 5 fv ms.length (metaV ms)) ∧ Hid (∀ q, fv.ownBlock = some q → w.heap.size + 3 < q) ∧ Hid (Keep (· = w.heap.size + 3) W0 wr)) (fun i _ _ _ => l.length - (intOf i).toNat)
  case atStart => exact ⟨0, 0, [], .slice none 0 0, rfl, Nat.zero_le _, rfl, rfl, Lib.hid rfl, P3, Lib.hid (Own.nil _ _ _), Lib.hid (fun k hk => by cases hk), P0⟩
  case round =>
    clear P0 P3 E0c E1c
    obtain ⟨wo, hwo⟩ : ∃ x, x = wr := ⟨_, rfl⟩
    subst hwo
    obtain ⟨j, gn, ms, fv, rfl, hj, rfl, hgn, HM, HF, HO, HOB, HK⟩ := hrel
    have hwo4 : w.heap.size + 4 ≤ wo.heap.size := Nat.le_trans hWl HK.out.size
    by_cases hlt : j < l.length
    · cases A with
      | none => have := (hA rfl).1; omega
      | some a =>
        obtain ⟨bb, oo, ss⟩ := a
        have hsp : ss = none := by obtain ⟨-, A', c', he, -, -, hcc⟩ := HR.out; injection he with he _ _; exact (hcc _ he.symm).1
        subst hsp
        have hold : ∀ q, q < w.heap.size → wo.heap[q]? = w.heap[q]? := fun q hq => (HK.out.block q (by omega) (by omega)).trans (HB0.out.block q hq)
        have hRw : Rds wo 5 (.slice (some ⟨bb, oo, none⟩) l.length c) l.length (metaV l) := HR.out.keep fun q hq => hold q (HV.out q hq)
        obtain ⟨c0, c1, c2, c3, c4⟩ := meta_cells hRw hlt
        obtain ⟨m, hm⟩ : ∃ m, m = l[j] := ⟨_, rfl⟩
        rw [← hm] at c0 c1 c2 c3 c4
        have HT := Lib.hid (show keptL del (l.take (j + 1)) = ms ++ (if del.contains m.num then [] else [m]) by
          rw [HM.out, List.take_succ_eq_append_getElem hlt, ← hm]; unfold keptL; rw [List.filter_append]; congr 1; simp only [List.filter_cons, List.filter_nil]; cases del.contains m.num <;> rfl)
        obtain ⟨W1, hW1⟩ : ∃ x, x = wo.alloc (.cells #[.int .i64 m.num, .int .i64 m.level, .string m.low, .string m.high, .int .i64 m.size] 42) := ⟨_, rfl⟩
        have hb1 : ∀ q, q < wo.heap.size → W1.heap[q]? = wo.heap[q]? := fun q hq => by rw [hW1]; exact Below.heap_alloc _ _ _ hq
        have hs1 : W1.heap.size = wo.heap.size + 1 := by rw [hW1]; simp
        have HM1 := Lib.hid (show W1.heap[wo.heap.size]? = some (.cells #[.int .i64 m.num, .int .i64 m.level, .string m.low, .string m.high, .int .i64 m.size] 42 (0, 0)) by rw [hW1]; exact heap_alloc_new wo _)
        have HF1 := Lib.hid ((hb1 (w.heap.size + 3) (by omega)).trans HF.out)
        have HE1 := Lib.hid ((hb1 (w.heap.size + 1) (by omega)).trans ((HK.out.block _ (by omega) (by omega)).trans E1.out))
        have HO1 := Lib.hid (HO.out.keep (w' := W1) fun q hq => hb1 q (HO.out.lt q hq))
        have HK1 := Lib.hid (show Keep (· = w.heap.size + 3) W0 W1 from HK.out.trans (by rw [hW1]; exact Keep.alloc _ wo _))
        have HRD1 := Lib.hid (show Rds W1 1 (.slice Ad del.length cd) del.length (intV del) from HRD.out.keep fun q hq => (hb1 q (by have := HDV.out q hq; omega)).trans (hold q (HDV.out q hq)))
        have hcon := contains_calls W1 HRD1.out m.num (by omega)
        have HW1 := Lib.hid hW1
        have HS1 := Lib.hid hs1
        clear hRw hm hW1 hA hb1 hs1 hold
        go_upto_region 12 with fail
        rw [← HW1.out]
        clear c0 c1 c2 c3 c4
        have e1 := cell_of_heap HE1.out 1
        have m0 := cell_of_heap HM1.out 0
        have m1 := cell_of_heap HM1.out 1
        have m2 := cell_of_heap HM1.out 2
        have m3 := cell_of_heap HM1.out 3
        have m4 := cell_of_heap HM1.out 4
        have v0 := cell_of_heap HF1.out 0
        cases hct : del.contains m.num with
        | true =>
          rw [hct] at hcon HT
          have HT' := Lib.hid (show keptL del (l.take (j + 1)) = ms by rw [HT.out]; simp)
          clear hct
          go_wp2_with fail
          refine hcon.mono ?_
          rintro e w' ⟨rfl, rfl⟩
          go_wp2_with fail
          go_roundw
          case rel => exact ⟨j + 1, gn + 1, ms, fv, by rw [Int.natCast_add]; rfl, by omega, by rw [Int.natCast_add]; rfl, by omega, Lib.hid HT'.out.symm, HF1, HO1, HOB, HK1⟩
          case measure => simp [intOf]; omega
        | false =>
          rw [hct] at hcon HT
          have HT' := Lib.hid (show keptL del (l.take (j + 1)) = ms ++ [m] by rw [HT.out]; simp)
          have hkb : ms.length + 1 ≤ 4294967296 := by omega
          clear hct
          go_wp2_with fail
          refine hcon.mono ?_
          rintro e w' ⟨rfl, rfl⟩
          go_wp2_with (at_builtin; go_must (refine app_elem W1 rfl _ _ 34 42 rfl 5 56 (.agg #[.int .i64 0, .int .i64 0, .string ⟨#[]⟩, .string ⟨#[]⟩, .int .i64 0]) tyMetas info_meta rfl (by decide) (v := fv) rfl HO1.out #[.int .i64 m.num, .int .i64 m.level, .string m.low, .string m.high, .int .i64 m.size] rfl (by simp [Value.oneCell']) rfl hkb (by omega) ?_); intro A9 n9 c9 w7 hn9 HAV; have HF7 := Lib.hid ((HAV.out.2.1.block (w.heap.size + 3) (lt_of_heap HF1.out) (fun h => by have := HOB.out _ h; omega)).trans HF1.out); have v7 := cell_of_heap HF7.out 0; have f7 := free_of_heap HF7.out 0)
          have HOB7 := Lib.hid (show ∀ q, (Value.slice A9 n9 c9).ownBlock = some q → w.heap.size + 3 < q from fun q hq => (HAV.out.2.2 q hq).elim (HOB.out q) fun h => by have := HS1.out; omega)
          have HK7 := Lib.hid (show Keep (· = w.heap.size + 3) W0 w7 from HK1.out.step HAV.out.2.1 fun i hi => .inr (by have := HOB.out i hi; omega))
          have HF8 := Lib.hid (heap_setCell_same HF7.out 0 (.slice A9 n9 c9))
          have HK8 := Lib.hid (HK7.out.set _ (w.heap.size + 3) 0 rfl (.slice A9 n9 c9))
          have HO8 := Lib.hid (HAV.out.1.keep (w' := w7.setCell ⟨w.heap.size + 3, 0, none⟩ (.slice A9 n9 c9)) fun q hq => heap_setCell_other (p := ⟨w.heap.size + 3, 0, none⟩) (by have := HOB7.out q hq; simp; omega) _)
          go_wp2_with fail
          go_roundw
          case rel => exact ⟨j + 1, gn, ms ++ [m], _, by rw [Int.natCast_add]; rfl, by omega, rfl, by rw [List.length_append]; simp; omega, Lib.hid HT'.out.symm, HF8, Lib.hid (by rw [List.length_append]; simpa [metaV, Meta.cells] using HO8.out), HOB7, HK8⟩
          case measure => simp [intOf]; omega
    · obtain rfl : j = l.length := by omega
      have HM' := Lib.hid (show ms = keptL del l by rw [HM.out, List.take_length])
      have hmsl : ms.length ≤ 100000 := by omega
      have HRR' := Lib.hid (show R = if decide (gn ≠ del.length ∨ lg1 < lg ∨ nx1 < nx ∨ sq1 < sq) = true then (zeroV, 1) else
          if checkR ⟨sortCf numCf (ms ++ add), lg1, nx1, sq1⟩ = 0 then (⟨sortCf numCf (ms ++ add), lg1, nx1, sq1⟩, 0) else (zeroV, checkR ⟨sortCf numCf (ms ++ add), lg1, nx1, sq1⟩) by
        rw [HRR.out, ← HM'.out]
        have e : decide (l.length ≠ ms.length + del.length ∨ lg1 < lg ∨ nx1 < nx ∨ sq1 < sq) = decide (gn ≠ del.length ∨ lg1 < lg ∨ nx1 < nx ∨ sq1 < sq) := by
          rw [decide_eq_decide]; omega
        rw [e])
      have HBM := Lib.hid (show ∀ m ∈ ms ++ add, boundM m from fun m hm => by
        rcases List.mem_append.1 hm with h | h
        · rw [HM'.out] at h; exact HB.out m (List.mem_filter.1 h).1
        · exact HBA.out m h)
      have E0w := Lib.hid ((HK.out.block w.heap.size (by omega) (by omega)).trans E0.out)
      have E1w := Lib.hid ((HK.out.block (w.heap.size + 1) (by omega) (by omega)).trans E1.out)
      have E2w := Lib.hid ((HK.out.block (w.heap.size + 2) (by omega) (by omega)).trans E2.out)
      have HBw := Lib.hid (HB0.out.trans (show RowKit.Below w.heap.size W0 wo from HK.out.below (fun k e => by omega) (by omega)))
      have HRAw := Lib.hid (HRA.out.keep (w' := wo) fun q hq => HBw.out.block q (HAV.out q hq))
      have e00 := cell_of_heap E0w.out 0
      have e01 := cell_of_heap E0w.out 1
      have e02 := cell_of_heap E0w.out 2
      have e03 := cell_of_heap E0w.out 3
      have e10 := cell_of_heap E1w.out 0
      have e11 := cell_of_heap E1w.out 1
      have e30 := cell_of_heap HF.out 0
      have e31 := cell_of_heap HF.out 1
      have e32 := cell_of_heap HF.out 2
      have e33 := cell_of_heap HF.out 3
      clear HM HRR hlt
      by_cases hbad : gn ≠ del.length ∨ lg1 < lg ∨ nx1 < nx ∨ sq1 < sq
      · have HF9 := Lib.hid (show R = (zeroV, 1) by rw [HRR'.out, if_pos (decide_eq_true hbad)])
        have RR := heap_setCell_same (heap_setCell_same (heap_setCell_same (heap_setCell_same E2w.out 0 (.slice none 0 0)) 1 (.int .i64 0)) 2 (.int .i64 0)) 3 (.int .u64 0)
        have R9 := Lib.hid RR
        have K9 := Lib.hid (((((Keep.refl (· = w.heap.size + 2) wo).set _ (w.heap.size + 2) 0 rfl (.slice none 0 0)).set _ _ 1 rfl (.int .i64 0)).set _ _ 2 rfl (.int .i64 0)).set _ _ 3 rfl (.int .u64 0))
        have e20 := cell_of_heap E2w.out 0
        have e21 := cell_of_heap E2w.out 1
        have e22 := cell_of_heap E2w.out 2
        have e23 := cell_of_heap E2w.out 3
        have f20 := free_of_heap E2w.out 0
        have f21 := free_of_heap E2w.out 1
        have f22 := free_of_heap E2w.out 2
        have f23 := free_of_heap E2w.out 3
        have HBD := Lib.hid hbad
        clear RR hbad
        have hc4 : (((gn : Int) != (del.length : Int)) = true) ∨ ((((gn : Int) != (del.length : Int)) = false) ∧ lg1 < lg) ∨ ((((gn : Int) != (del.length : Int)) = false) ∧ ¬ lg1 < lg ∧ nx1 < nx) ∨ ((((gn : Int) != (del.length : Int)) = false) ∧ ¬ lg1 < lg ∧ ¬ nx1 < nx ∧ sq1 < sq) := by
          have := HBD.out
          by_cases h1 : gn = del.length
          · have hz : (((gn : Int) != (del.length : Int)) = false) := by rw [bne_eq_false_iff_eq]; omega
            by_cases h2 : lg1 < lg
            · exact .inr (.inl ⟨hz, h2⟩)
            · by_cases h3 : nx1 < nx
              · exact .inr (.inr (.inl ⟨hz, h2, h3⟩))
              · exact .inr (.inr (.inr ⟨hz, h2, h3, by omega⟩))
          · exact .inl (by rw [bne_iff_ne]; omega)
        clear hgn
        rcases hc4 with h1 | ⟨h1, h2⟩ | ⟨h1, h2, h3⟩ | ⟨h1, h2, h3, h4⟩
        all_goals
          go_wp2_with fail
          (try simp only [Exit.inBlock, Exit.then])
          refine bodyPost_ret (results_row_tmp (by rfl) _ _ (w.heap.size + 2) 37 _ (0, 0) (by rfl) R9.out tyVers szVers) (by rfl) ?_
          rw [HF9.out]
          exact ⟨_, rfl, Own.nil _ _ _, HBw.out.trans (K9.out.below (fun k e => by omega) HBw.out.size), fun k hk => by cases hk⟩
      · have HF9 := Lib.hid (show R = if checkR ⟨sortCf numCf (ms ++ add), lg1, nx1, sq1⟩ = 0 then (⟨sortCf numCf (ms ++ add), lg1, nx1, sq1⟩, 0) else (zeroV, checkR ⟨sortCf numCf (ms ++ add), lg1, nx1, sq1⟩) by
          rw [HRR'.out, if_neg (by rw [decide_eq_true_eq]; exact hbad)])
        have hb1 : ¬ gn ≠ del.length := fun h => hbad (.inl h)
        have hb2 : ¬ lg1 < lg := fun h => hbad (.inr (.inl h))
        have hb3 : ¬ nx1 < nx := fun h => hbad (.inr (.inr (.inl h)))
        have hb4 : ¬ sq1 < sq := fun h => hbad (.inr (.inr (.inr h)))
        have hgd : ((gn : Int) != (del.length : Int)) = false := by rw [bne_eq_false_iff_eq]; omega
        clear hbad hb1 HRR'
        have HONE := Lib.hid (metaV_one add)
        go_wp2_with (at_builtin; go_must (refine wpList_append_to _ rfl _ _ 34 rfl 42 5 56 (.agg #[.int .i64 0, .int .i64 0, .string ⟨#[]⟩, .string ⟨#[]⟩, .int .i64 0]) tyMetas info_meta rfl (by decide) fv ms.length (metaV ms) rfl HO.out (.slice Aa add.length ca) add.length (metaV add) rfl HRAw.out HONE.out (by unfold maxLen; omega) (by omega) ?_); intro v' w7 g1 g2 g3; obtain ⟨-, A7, c7, rfl, -⟩ := id g1.rds; have HO7 := Lib.hid g1; have HG7 := Lib.hid (Keep.of_grown (F := fun k => fv.ownBlock = some k) g2 fun k hk => hk); have HB7 := Lib.hid (show ∀ q, (Value.slice A7 (ms.length + add.length) c7).ownBlock = some q → w.heap.size + 3 < q from fun q hq => by rcases g3 with e | e; exact HOB.out q (e ▸ hq); have := e.symm.trans hq; injection this with this; omega); clear g1 g2 g3; have HF7 := Lib.hid ((HG7.out.block (w.heap.size + 3) (lt_of_heap HF.out) (fun h => by have := HOB.out _ h; omega)).trans HF.out); have v7 := cell_of_heap HF7.out 0; have f7 := free_of_heap HF7.out 0)
        obtain ⟨W8, hW8⟩ : ∃ x, x = w7.setCell ⟨w.heap.size + 3, 0, none⟩ (.slice A7 (ms.length + add.length) c7) := ⟨_, rfl⟩
        have HF8 := Lib.hid (show W8.heap[w.heap.size + 3]? = some (.cells #[.slice A7 (ms.length + add.length) c7, .int .i64 lg1, .int .i64 nx1, .int .u64 sq1] 37 (0, 0)) by rw [hW8]; exact heap_setCell_same HF7.out 0 _)
        have HG8 := Lib.hid (show Keep (fun k => k = w.heap.size + 3 ∨ fv.ownBlock = some k) wo W8 by rw [hW8]; exact (HG7.out.mono fun k h => .inr h).set _ _ 0 (.inl rfl) _)
        have hll : (ms ++ add).length = ms.length + add.length := List.length_append
        have HO8 := Lib.hid (show Own W8 42 5 (.slice A7 (ms.length + add.length) c7) (ms ++ add).length (metaV (ms ++ add)) by
          rw [hll, metaV_append, hW8]
          exact HO7.out.keep fun q hq => heap_setCell_other (p := ⟨w.heap.size + 3, 0, none⟩) (by have := HB7.out q hq; simp; omega) _)
        have HW8 := Lib.hid hW8
        have hcon := sort_own W8 HBM.out HO8.out (by omega) numCf numSWO 48 #[] (fun _ _ => by kernel_rfl) (fun x y W _ => applyCl_calls x y W)
        have HLEN := Lib.hid (show (sortCf numCf (ms ++ add)).length = ms.length + add.length by rw [(sortCf_perm numSWO HBM.out).length_eq, hll])
        have HBS := Lib.hid (show ∀ m ∈ sortCf numCf (ms ++ add), boundM m from fun m hm => HBM.out m ((sortCf_perm numSWO HBM.out).mem_iff.1 hm))
        clear hW8 e00 e01 e02 e03 e30 e31 e32 e33 v7 f7 hgd hb2 hb3 hb4
        rw [← HW8.out]
        refine hcon.mono ?_
        rintro e w9 ⟨rfl, lb, hlb, hO9, hK9⟩
        rw [hll] at hO9
        have HO9 := Lib.hid (show Own w9 42 5 (.slice A7 (ms.length + add.length) c7) (ms.length + add.length) (metaV (sortCf numCf (ms ++ add))) by unfold sortCf; rw [← liftB_eq hlb]; exact hO9)
        have HK9 := Lib.hid hK9
        have HF9w := Lib.hid ((hK9.block (w.heap.size + 3) (lt_of_heap HF8.out) (fun h => by have := HB7.out _ h; omega)).trans HF8.out)
        clear hcon hlb hO9 hK9 hll
        generalize sortCf numCf (ms ++ add) = S at *
        have x0 := cell_of_heap HF9w.out 0
        have x1 := cell_of_heap HF9w.out 1
        have x2 := cell_of_heap HF9w.out 2
        have x3 := cell_of_heap HF9w.out 3
        have hSl : S.length ≤ 200000 := by have := HLEN.out; omega
        have hRS : Rds w9 5 (.slice A7 (ms.length + add.length) c7) S.length (metaV S) := by rw [HLEN.out]; exact HO9.out.rds
        have HCK := Lib.hid (verCheck_calls w9 hRS HO9.out.lt HBS.out lg1 nx1 sq1 (by omega))
        clear hRS
        go_wp2_with fail
        refine HCK.out.mono ?_
        rintro e wx ⟨rfl, hBx⟩
        obtain ⟨ck, hck⟩ : ∃ x, x = checkR ⟨S, lg1, nx1, sq1⟩ := ⟨_, rfl⟩
        rw [← hck]
        have HR9 := Lib.hid (show R = if ck = 0 then (⟨S, lg1, nx1, sq1⟩, 0) else (zeroV, ck) by rw [hck]; exact HF9.out)
        have HOx := Lib.hid (HO9.out.keep fun q hq => hBx.block q (HO9.out.lt q hq))
        have HFx := Lib.hid ((hBx.block _ (lt_of_heap HF9w.out)).trans HF9w.out)
        have HKx := Lib.hid (show Keep (fun k => w.heap.size + 3 ≤ k) wo wx from
          ((HG8.out.mono (G := fun k => w.heap.size + 3 ≤ k) (fun k h => h.elim (fun e => by omega) (fun e => by have := HOB.out k e; omega))).trans (HK9.out.mono (G := fun k => w.heap.size + 3 ≤ k) (fun k h => by have := HB7.out k h; omega))).trans (Keep.of_below hBx))
        have E2x := Lib.hid ((HKx.out.block (w.heap.size + 2) (by omega) (by omega)).trans E2w.out)
        have HBx := Lib.hid (HBw.out.trans (HKx.out.below (fun k (h : w.heap.size + 3 ≤ k) => (by omega : w.heap.size ≤ k)) HBw.out.size))
        clear hck hBx x0 x1 x2 x3 HF9
        have y0 := cell_of_heap HFx.out 0
        have y1 := cell_of_heap HFx.out 1
        have y2 := cell_of_heap HFx.out 2
        have y3 := cell_of_heap HFx.out 3
        have e20 := cell_of_heap E2x.out 0
        have e21 := cell_of_heap E2x.out 1
        have e22 := cell_of_heap E2x.out 2
        have e23 := cell_of_heap E2x.out 3
        have f20 := free_of_heap E2x.out 0
        have f21 := free_of_heap E2x.out 1
        have f22 := free_of_heap E2x.out 2
        have f23 := free_of_heap E2x.out 3
        by_cases hcz : ck = 0
        · have HRF := Lib.hid (show R = (⟨S, lg1, nx1, sq1⟩, 0) by rw [HR9.out, if_pos hcz])
          have hcb : (ck != 0) = false := by rw [bne_eq_false_iff_eq]; exact hcz
          have R9 := Lib.hid (heap_setCell_same (heap_setCell_same (heap_setCell_same (heap_setCell_same E2x.out 0 (.slice A7 (ms.length + add.length) c7)) 1 (.int .i64 lg1)) 2 (.int .i64 nx1)) 3 (.int .u64 sq1))
          have K9 := Lib.hid (((((Keep.refl (· = w.heap.size + 2) wx).set _ (w.heap.size + 2) 0 rfl (.slice A7 (ms.length + add.length) c7)).set _ _ 1 rfl (.int .i64 lg1)).set _ _ 2 rfl (.int .i64 nx1)).set _ _ 3 rfl (.int .u64 sq1))
          clear hcz
          go_wp2_with fail
          (try simp only [Exit.inBlock, Exit.then])
          refine bodyPost_ret (results_row_tmp (by rfl) _ _ (w.heap.size + 2) 37 _ (0, 0) (by rfl) R9.out tyVers szVers) (by rfl) ?_
          rw [HRF.out]
          exact ⟨_, rfl, by rw [HLEN.out]; exact HOx.out.keep fun q hq => K9.out.block q (HOx.out.lt q hq) (by have := HB7.out q hq; omega), HBx.out.trans (K9.out.below (fun k e => by omega) HBx.out.size), fun k hk => by have := HB7.out k hk; omega⟩
        · have HRF := Lib.hid (show R = (zeroV, ck) by rw [HR9.out, if_neg hcz])
          have hcb : (ck != 0) = true := by rw [bne_iff_ne]; exact hcz
          have R9 := Lib.hid (heap_setCell_same (heap_setCell_same (heap_setCell_same (heap_setCell_same E2x.out 0 (.slice none 0 0)) 1 (.int .i64 0)) 2 (.int .i64 0)) 3 (.int .u64 0))
          have K9 := Lib.hid (((((Keep.refl (· = w.heap.size + 2) wx).set _ (w.heap.size + 2) 0 rfl (.slice none 0 0)).set _ _ 1 rfl (.int .i64 0)).set _ _ 2 rfl (.int .i64 0)).set _ _ 3 rfl (.int .u64 0))
          clear hcz
          go_wp2_with fail
          (try simp only [Exit.inBlock, Exit.then])
          refine bodyPost_ret (results_row_tmp (by rfl) _ _ (w.heap.size + 2) 37 _ (0, 0) (by rfl) R9.out tyVers szVers) (by rfl) ?_
          rw [HRF.out]
          exact ⟨_, rfl, Own.nil _ _ _, HBx.out.trans (K9.out.below (fun k e => by omega) HBx.out.size), fun k hk => by cases hk⟩

end Go.Proofs.YtebkmpgmcldeoaaDoor
