/- The law's check, walked: a version that is right passes. -/
import Derived.Test.YtebkmpgmcldeoaaDoorSr
import Derived.BigQuiet
import Derived.Deep.Cut
import Derived.Deep.CutRange
import Derived.Deep.DeepCutAuto
/- The law's own small functions. -/
namespace Go.Proofs.YtebkmpgmcldeoaaDoor
open Go Go.Proofs Go.RowKit Go.Sort
set_option linter.unusedVariables false

theorem tyMeta1 : ((Tryd.prog.underlying 42).map fun d => match d with | .struct _ | .array _ _ => true | _ => false) = some true := by kernel_rfl
theorem szMeta1 : (Tryd.prog.info? 42).map (·.size) = some 5 := by kernel_rfl

set_option maxRecDepth 100000 in
theorem lmeta_calls (w : World) (n : Int) : Calls Tryd.prog 14 #[.int .i64 n] w fun e w' => e = .returned (.agg #[.int .i64 n, .int .i64 0, .string ⟨#[97]⟩, .string ⟨#[98]⟩, .int .i64 5]) ∧ RowKit.Below w.heap.size w w' := by
  have HE := Lib.hid (heap_alloc_new w (.cells #[.int .i64 n, .int .i64 0, .string ⟨#[97]⟩, .string ⟨#[98]⟩, .int .i64 5] 42))
  have HB := Lib.hid ((Below.refl w.heap.size w).alloc (Nat.le_refl _) (.cells #[.int .i64 n, .int .i64 0, .string ⟨#[97]⟩, .string ⟨#[98]⟩, .int .i64 5] 42))
  go_enter Tryd.func14, Tryd.ntmps14
  go_wp2_with fail
  (try simp only [Exit.inBlock, Exit.then])
  refine bodyPost_ret (results_row (by rfl) _ _ w.heap.size 42 _ (0, 0) (by rfl) HE.out tyMeta1 szMeta1) (by rfl) ?_
  exact ⟨rfl, HB.out⟩

set_option maxHeartbeats 1000000 in
set_option maxRecDepth 100000 in
theorem right_calls (w : World) (m : Meta) (h : okM m = true) : Calls Tryd.prog 30 #[.agg m.cells.toArray] w fun e w' => e = .returned (.bool true) ∧ ∃ q os', w' = grow (w.drewN q) os' := by
  obtain ⟨n, l, lo, hi, s⟩ := m
  unfold okM at h
  rw [decide_eq_true_eq] at h
  simp only at h
  obtain ⟨h1, h2, h3, h4, h5, h6, h7, h8, h9, h10⟩ := h
  have h11 : l ≤ 5 := by omega
  have h12 : (1 : Int) ≤ (lo.size : Int) := by
    rcases Nat.eq_zero_or_pos lo.size with e | e
    · exfalso; apply h5
      have h0 : lo.data = #[] := Array.eq_empty_of_size_eq_zero e
      have h00 : lo = ⟨#[]⟩ := ByteArray.ext h0
      have h000 : (⟨#[]⟩ : ByteArray).toList = [] := by kernel_rfl
      rw [h00]; exact h000
    · omega
  show Calls Tryd.prog 30 #[.agg #[.int .i64 n, .int .i64 l, .string lo, .string hi, .int .i64 s]] w fun e w' => e = .returned (.bool true) ∧ ∃ q os', w' = grow (w.drewN q) os'
  have HB : Hid (∃ q os', w.alloc (.cells #[.int .i64 n, .int .i64 l, .string lo, .string hi, .int .i64 s] 42) = grow (w.drewN q) os') := Lib.hid ⟨0, _, by rw [alloc_eq_grow]; rfl⟩
  have h6b : (Op.bytesLess lo.toList hi.toList || lo.toList == hi.toList) = true := by
    rcases h6 with h | h
    · rw [h]; rfl
    · rw [h]; simp
  clear h5
  go_enter Tryd.func30, Tryd.ntmps30
  go_wp2

  all_goals
    go_ret
    exact ⟨rfl, HB.out⟩

set_option maxRecDepth 100000 in
theorem named_nil (w : World) : Calls Tryd.prog 17 #[.pointer none] w fun e w' => e = .returned (.slice none 0 0) ∧ w = w' := by
  go_enter Tryd.func17, Tryd.ntmps17
  go_wp2
  go_ret
  exact ⟨rfl, rfl⟩

set_option maxHeartbeats 1000000 in
set_option maxRecDepth 100000 in
theorem same_empty (w : World) (A B : Option Addr) (c c' : Nat) (lg nx : Int) (sq : Nat) : Calls Tryd.prog 15 #[.agg #[.slice A 0 c, .int .i64 lg, .int .i64 nx, .int .u64 sq], .agg #[.slice B 0 c', .int .i64 lg, .int .i64 nx, .int .u64 sq]] w fun e w' => e = .returned (.bool true) ∧ RowKit.Below w.heap.size w w' := by
  have HB := Lib.hid (((Below.refl w.heap.size w).alloc (Nat.le_refl _) (.cells #[.slice A 0 c, .int .i64 lg, .int .i64 nx, .int .u64 sq] 37)).alloc (by simp) (.cells #[.slice B 0 c', .int .i64 lg, .int .i64 nx, .int .u64 sq] 37))
  go_enter Tryd.func15, Tryd.ntmps15
  go_wp2_with fail
  go_loop [37, 5] (fun i _ => i = .int .i64 0) (fun _ _ => 0)
  case atStart => rfl
  case round =>
    obtain rfl := hrel
    go_wp2_with fail
    go_ret
    exact ⟨rfl, HB.out⟩

end Go.Proofs.YtebkmpgmcldeoaaDoor

/- The law's own check: of a version that is right it is content. -/
namespace Go.Proofs.YtebkmpgmcldeoaaDoor
open Go Go.Proofs Go.RowKit Go.Sort
set_option linter.unusedVariables false

def leS (a b : ByteArray) : Prop := Op.bytesLess a.toList b.toList = true ∨ a.toList = b.toList
def awayM (a b : Meta) : Prop := a.high.toList < b.low.toList ∨ b.high.toList < a.low.toList
theorem bl_lt {a b : List UInt8} : Op.bytesLess a b = true ↔ a < b := by rw [bytesLess_eq]; simp
theorem le_not_lt {a b : ByteArray} (h : leS a b) : ¬ b.toList < a.toList := by
  rcases h with h | h
  · rw [bl_lt] at h
    exact fun h2 => List.lt_irrefl _ (List.lt_trans h h2)
  · rw [h]; exact List.lt_irrefl _
theorem apart_all {S : List Meta} (h : apartL S = true) (hok : ∀ m ∈ S, okM m = true) : ∀ (b a : Nat) (hb : b < S.length) (hab : a < b), (S[a]'(by omega)).high.toList < (S[b]).low.toList
  | 0, a, hb, hab => by omega
  | b + 1, a, hb, hab => by
    have h1 := List.all_eq_true.1 h b (List.mem_range.2 (by omega))
    unfold apartAt at h1
    have hb0 : b < S.length := by omega
    simp only [List.getD_eq_getElem?_getD, List.getElem?_eq_getElem hb0, List.getElem?_eq_getElem hb, Option.getD_some] at h1
    rw [bl_lt] at h1
    rcases Nat.lt_or_ge a b with h2 | h2
    · have ih := apart_all h hok b a hb0 h2
      have hk := hok S[b] (List.getElem_mem hb0)
      unfold okM at hk
      rw [decide_eq_true_eq] at hk
      rcases hk.2.2.2.2.2.1 with h3 | h3
      · rw [bl_lt] at h3; exact List.lt_trans ih (List.lt_trans h3 h1)
      · rw [h3] at ih; exact List.lt_trans ih h1
    · obtain rfl : a = b := by omega
      exact h1
theorem pair_away {v : VersP} (h : checkR v = 0) {i j : Nat} (hj : j < i) (hi : i < v.files.length) (hl : (v.files[j]'(by omega)).level = (v.files[i]).level) (h0 : 0 < (v.files[i]).level) : awayM (v.files[j]'(by omega)) (v.files[i]) := by
  have hk := files_ok h
  obtain ⟨n, hn⟩ : ∃ n : Nat, (v.files[i]).level = (n : Int) := ⟨(v.files[i]).level.toNat, by omega⟩
  have hi6 := hk v.files[i] (List.getElem_mem hi)
  unfold okM at hi6
  rw [decide_eq_true_eq] at hi6
  have hlv : levelOk v.files n = true := List.all_eq_true.1 (checkR_ok h).2.2.2 n (by simp [List.mem_range'_1]; omega)
  unfold levelOk at hlv
  have hb : ∀ m ∈ ofL (n : Int) v.files, boundM m := fun m hm => okM_bound (hk m (List.mem_filter.1 hm).1)
  have hp := sortCf_perm lowSWO hb
  have hpw : (sortCf lowCf (ofL (n : Int) v.files)).Pairwise awayM := by
    rw [List.pairwise_iff_getElem]
    intro a b ha hb' hab
    exact .inl (apart_all hlv (fun m hm => hk m (List.mem_filter.1 (hp.mem_iff.1 hm)).1) b a hb' hab)
  have hpw2 := (hp.pairwise_iff (fun {x y} hxy => Or.symm hxy)).1 hpw
  unfold ofL at hpw2
  rw [List.pairwise_filter, List.pairwise_iff_getElem] at hpw2
  exact hpw2 j i (by omega) hi hj (by simp [hl, hn]) (by simp [hn])
theorem pair_not {v : VersP} (h : checkR v = 0) {i j : Nat} (hj : j < i) (hi : i < v.files.length) (hl : (v.files[j]'(by omega)).level = (v.files[i]).level) (h0 : 0 < (v.files[i]).level)
    (h1 : leS (v.files[j]'(by omega)).low (v.files[i]).high) (h2 : leS (v.files[i]).low (v.files[j]'(by omega)).high) : False := by
  rcases pair_away h hj hi hl h0 with h3 | h3
  · exact le_not_lt h2 h3
  · exact le_not_lt h1 h3
theorem file_at {v : VersP} (h : checkR v = 0) {i : Nat} (hi : i < v.files.length) : (v.files[i]).num < v.next ∧ ∀ (h0 : 0 < i), (v.files[i - 1]'(by omega)).num < (v.files[i]).num := by
  have := List.all_eq_true.1 (checkR_ok h).2.2.1 i (List.mem_range.2 hi)
  unfold fileOk at this
  simp only [List.getD_eq_getElem?_getD, List.getElem?_eq_getElem hi, Option.getD_some, Bool.and_eq_true, decide_eq_true_eq, Bool.or_eq_true, beq_iff_eq] at this
  refine ⟨this.1.2, fun h0 => ?_⟩
  rcases this.2 with h1 | h1
  · omega
  · rw [List.getElem?_eq_getElem (by omega)] at h1; exact h1

end Go.Proofs.YtebkmpgmcldeoaaDoor

namespace Go.Proofs.YtebkmpgmcldeoaaDoor
open Go Go.Proofs Go.RowKit Go.Sort
set_option linter.unusedVariables false

theorem sizeMeta (W : World) : (sizeOf 42).run Tryd.prog W = .ok 5 W := by kernel_rfl
theorem metaV_take (l : List Meta) (k : Nat) : metaV (l.take k) = (metaV l).take (k * 5) := by
  induction l generalizing k with
  | nil => simp [metaV]
  | cons a l ih =>
    cases k with
    | zero => simp [metaV]
    | succ k =>
      have e : ∀ (a : Meta) (l : List Meta), metaV (a :: l) = a.cells ++ metaV l := fun a l => by simp [metaV]
      have hlen : a.cells.length = 5 := rfl
      rw [List.take_succ_cons, e, e, ih, List.take_append, hlen, show (k + 1) * 5 - 5 = k * 5 by omega]
      rw [List.take_of_length_le (l := a.cells) (by rw [hlen]; omega)]

set_option maxHeartbeats 4000000 in
set_option maxRecDepth 100000 in
theorem lcheck_calls (w : World) {v : Value} {l : List Meta} (hr : Rds w 5 v l.length (metaV l)) (hv : ∀ k, v.ownBlock = some k → k < w.heap.size) (lg nx : Int) (sq : Nat) (h : checkR ⟨l, lg, nx, sq⟩ = 0) :
    Calls Tryd.prog 10 #[.agg #[v, .int .i64 lg, .int .i64 nx, .int .u64 sq]] w fun e w' => e = .returned (.int .i64 0) ∧ RowKit.Below w.heap.size w w' := by
  have hmo : Tryd.prog.follows .mixedOrders = true := by kernel_rfl
  obtain ⟨-, A, c, rfl, hc, hA, -⟩ := id hr
  have HR := Lib.hid hr
  have HV := Lib.hid hv
  have HCK := Lib.hid h
  have hn : l.length ≤ 1000 := (checkR_ok h).2.1
  have hh := (checkR_ok h).1
  unfold headOk at hh
  rw [decide_eq_true_eq] at hh
  obtain ⟨h1, h2, h3, h4, h5⟩ := hh
  simp only at h1 h2 h3 h4 h5
  have h6 : ¬ (72057594037927936 : Int) ≤ (sq : Int) := by omega
  clear hr hv h
  obtain ⟨W0, hW0⟩ : ∃ x, x = w.alloc (.cells #[.slice A l.length c, .int .i64 lg, .int .i64 nx, .int .u64 sq] 37) := ⟨_, rfl⟩
  have HW0 := Lib.hid hW0
  have HB0 := Lib.hid (show RowKit.Below w.heap.size w W0 by rw [hW0]; exact (Below.refl _ _).alloc (Nat.le_refl _) _)
  have HV0 := Lib.hid (show W0.heap[w.heap.size]? = some (.cells #[.slice A l.length c, .int .i64 lg, .int .i64 nx, .int .u64 sq] 37 (0, 0)) by rw [hW0]; exact heap_alloc_new w _)
  clear hW0
  have hWl : w.heap.size < W0.heap.size := lt_of_heap HV0.out
  go_enter Tryd.func10, Tryd.ntmps10
  go_upto_region 5 with fail
  rw [← HW0.out]
  have HV0c := Lib.hid (cell_of_heap HV0.out 0)
  go_cut [35, 36, 37] (fun s36 s37 s38 wx => s36 = .slice A l.length c ∧ s37 = .int .i64 l.length ∧ s38 = .int .i64 0 ∧ W0 = wx)
  case first =>
    have hc0 := HV0c.out
    go_wp2_with fail
    go_meet
    case rel => exact ⟨rfl, rfl, rfl, rfl⟩
  case rest =>
  obtain ⟨rfl, rfl, rfl, rfl⟩ := hcut
  clear h1 h2 h3 h4 h5 h6
  go_wp2_with fail
  go_loopw [37, 3, 4, 6] (fun i _ _ _ wr => ∃ j : Nat, i = .int .i64 j ∧ j ≤ l.length ∧ Hid (RowKit.Below W0.heap.size W0 wr)) (fun i _ _ _ _ => l.length - (intOf i).toNat)
  case atStart => exact ⟨0, rfl, Nat.zero_le _, Lib.hid (Below.refl _ _)⟩
  case round =>
    obtain ⟨wo, hwo⟩ : ∃ x, x = wr := ⟨_, rfl⟩
    subst hwo
    obtain ⟨j, rfl, hj, HBw⟩ := hrel
    have hwr : W0.heap.size ≤ wo.heap.size := HBw.out.size
    by_cases hlt : j < l.length
    · cases A with
      | none => have := (hA rfl).1; omega
      | some a =>
        obtain ⟨bb, oo, ss⟩ := a
        have hsp : ss = none := by obtain ⟨-, A', c', he, -, -, hcc⟩ := HR.out; injection he with he _ _; exact (hcc _ he.symm).1
        subst hsp
        have hRw : Rds wo 5 (.slice (some ⟨bb, oo, none⟩) l.length c) l.length (metaV l) := HR.out.keep fun q hq => (HBw.out.block q (by have := HV.out q hq; omega)).trans (HB0.out.block q (HV.out q hq))
        obtain ⟨c0, c1, c2, c3, c4⟩ := meta_cells hRw hlt
        obtain ⟨m, hm⟩ : ∃ m, m = l[j] := ⟨_, rfl⟩
        have hmk : okM m = true := by rw [hm]; exact files_ok HCK.out _ (List.getElem_mem hlt)
        obtain ⟨hfa, hfb⟩ := file_at HCK.out (i := j) hlt
        simp only at hfa hfb
        rw [← hm] at c0 c1 c2 c3 c4 hfa hfb
        have HM := Lib.hid hm
        obtain ⟨W1, hW1⟩ : ∃ x, x = wo.alloc (.cells #[.int .i64 m.num, .int .i64 m.level, .string m.low, .string m.high, .int .i64 m.size] 42) := ⟨_, rfl⟩
        have hM1 : W1.heap[wo.heap.size]? = some (.cells #[.int .i64 m.num, .int .i64 m.level, .string m.low, .string m.high, .int .i64 m.size] 42 (0, 0)) := by rw [hW1]; exact heap_alloc_new wo _
        have HM1 := Lib.hid hM1
        have hmsz : wo.heap.size < W1.heap.size := lt_of_heap hM1
        have hwsz : w.heap.size < W1.heap.size := by omega
        have hbb : bb < wo.heap.size := Nat.lt_of_lt_of_le (HV.out bb rfl) (by omega)
        have hbsz : bb < W1.heap.size := by omega
        have HBW1 := Lib.hid (show RowKit.Below W0.heap.size W0 W1 by rw [hW1]; exact HBw.out.alloc hwr _)
        have hV1 := (HBW1.out.block w.heap.size hWl).trans HV0.out
        have HV1 := Lib.hid hV1
        have g0 := cell_grown hmsz (cell_of_heap hM1 0)
        have g1 := cell_grown hmsz (cell_of_heap hM1 1)
        have g2 := cell_grown hmsz (cell_of_heap hM1 2)
        have g3 := cell_grown hmsz (cell_of_heap hM1 3)
        have g4 := cell_grown hmsz (cell_of_heap hM1 4)
        have gv0 := cell_grown hwsz (cell_of_heap hV1 0)
        have gv2 := cell_grown hwsz (cell_of_heap hV1 2)
        have HW1 := Lib.hid hW1
        have hck : ∀ W, Calls Tryd.prog 30 #[.agg #[.int .i64 m.num, .int .i64 m.level, .string m.low, .string m.high, .int .i64 m.size]] W fun e w' => e = .returned (.bool true) ∧ ∃ q os', w' = grow (W.drewN q) os' := fun W => right_calls W m hmk
        have HRW := Lib.hid (show Rds W1 5 (.slice (some ⟨bb, oo, none⟩) l.length c) l.length (metaV l) from hRw.keep fun q hq => by rw [hW1]; exact Below.heap_alloc _ _ _ (by have := HV.out q hq; omega))
        have hd1 : decide (m.num ≥ nx) = false := decide_eq_false (by omega)
        have hd2 : decide (nx ≤ m.num) = false := decide_eq_false (by omega)
        have HFB := Lib.hid hfb
        clear hRw hm hW1 hM1 hV1 hA hfb hmk
        go_upto_region 8 with fail
        rw [← HW1.out]
        clear c0 c1 c2 c3 c4
        go_cut [67] (fun s wx => s = .bool false ∧ Hid (∃ q os, wx = grow (W1.drewN q) os))
        case first =>
          rcases Nat.eq_zero_or_pos j with hj0 | hj0
          · have hj1 : decide ((0 : Int) < (j : Int)) = false := decide_eq_false (by omega)
            have hjn : ¬ 0 < j := by omega
            clear hj0
            go_wp2_with fail
            refine wp_region_quiet_grown (by assumption) (by kernel_rfl) ?_
            repeat (go_big_quiet_step ((go_at_call 30; refine Calls.grown_of (hck _))))
            refine wpQuiet_nil ?_
            rintro _ ⟨⟨nq, osq⟩, rfl⟩
            go_wp2_with fail
            go_meet
            case rel => exact ⟨rfl, Lib.hid ⟨nq, osq, rfl⟩⟩
          · have hj1 : decide ((0 : Int) < (j : Int)) = true := decide_eq_true (by omega)
            have hpl : j - 1 < l.length := by omega
            obtain ⟨p, hp⟩ : ∃ p, p = l[j - 1] := ⟨_, rfl⟩
            have gp := cell_grown hbsz (meta_cells HRW.out hpl).1
            have hpm := HFB.out hj0
            rw [← hp] at gp hpm
            have hw1 : IntKind.i64.wrap ((j : Int) - 1) = ((j - 1 : Nat) : Int) := by rw [IntKind.wrap_i64]; omega
            have hjz : (j : Int) - 1 = ((j - 1 : Nat) : Int) := by omega
            obtain ⟨q, hq⟩ : ∃ q, q = j - 1 := ⟨_, rfl⟩
            rw [← hq] at gp hw1 hpl hjz
            have hqj : q < j := by omega
            have hd3 : decide (p.num ≥ m.num) = false := decide_eq_false (by omega)
            have hd4 : decide (m.num ≤ p.num) = false := decide_eq_false (by omega)
            clear hp hq
            go_wp2_with fail
            refine wp_region_quiet_grown (by assumption) (by kernel_rfl) ?_
            repeat (go_big_quiet_step ((go_at_call 30; refine Calls.grown_of (hck _))))
            refine wpQuiet_nil ?_
            rintro _ ⟨⟨nq, osq⟩, rfl⟩
            go_wp2_with fail
            go_meet
            case rel => exact ⟨rfl, Lib.hid ⟨nq, osq, rfl⟩⟩
        case rest =>
        obtain ⟨rfl, HQ⟩ := hcut
        obtain ⟨nq, osq, hwc⟩ := HQ.out
        have HBG := Lib.hid (show RowKit.Below W1.heap.size W1 wc by rw [hwc]; exact below_grown W1 nq osq)
        clear hwc HQ g0 g1 g2 g3 g4 gv0 gv2 hck hd1 hd2
        have HMc := Lib.hid ((HBG.out.block _ hmsz).trans HM1.out)
        have HVc := Lib.hid ((HBG.out.block _ hwsz).trans HV1.out)
        have HBc := Lib.hid (HBW1.out.trans (HBG.out.mono (by omega)))
        have HRc := Lib.hid (HRW.out.keep (w' := wc) fun q hq => HBG.out.block q (by have := HV.out q hq; omega))
        have vc0 := cell_of_heap HVc.out 0
        obtain ⟨x, hx1, hx2, hx3⟩ := cut_h tyMetas sizeMeta HRc.out j (by omega)
        rw [← metaV_take] at hx2
        have hll : (l.take j).length = j := by rw [List.length_take]; omega
        obtain ⟨-, Ax, cx, hxv, -, hAx, -⟩ := id hx2
        subst hxv
        have HX2 := Lib.hid hx2
        have HX3 := Lib.hid hx3
        clear hx2 hx3
        obtain ⟨w3, hw3⟩ : ∃ x, x = wc := ⟨_, rfl⟩
        subst hw3
        go_wp2_with fail
        clear vc0 hx1
        go_loopw [73, 6] (fun i _ wr => ∃ k : Nat, i = .int .i64 k ∧ k ≤ j ∧ Hid (RowKit.Below w3.heap.size w3 wr)) (fun i _ _ => j - (intOf i).toNat)
        case atStart => exact ⟨0, rfl, Nat.zero_le _, Lib.hid (Below.refl _ _)⟩
        case round =>
          obtain ⟨w4, hw4⟩ : ∃ x, x = wr := ⟨_, rfl⟩
          subst hw4
          obtain ⟨k, rfl, hkj, HB4⟩ := hrel
          have hsz4 := HB4.out.size
          by_cases hlk : k < j
          · cases Ax with
            | none => have := (hAx rfl).1; omega
            | some ax =>
              obtain ⟨xb, xo, xs⟩ := ax
              have hsp : xs = none := by obtain ⟨-, A', c', he, -, -, hcc⟩ := HX2.out; injection he with he _ _; exact (hcc _ he.symm).1
              subst hsp
              have hxbl : xb < w3.heap.size := by
                have h1 : (Value.slice (some ⟨bb, oo, none⟩) l.length c).ownBlock = some xb := by rw [← HX3.out]; rfl
                have := HV.out xb h1
                have := HBG.out.size
                omega
              have hR4 : Rds w4 5 (.slice (some ⟨xb, xo, none⟩) j cx) j (metaV (l.take j)) := HX2.out.keep fun q hq => HB4.out.block q (by have h0 : xb = q := Option.some.inj hq; omega)
              have hR5 : Rds w4 5 (.slice (some ⟨xb, xo, none⟩) (l.take j).length cx) (l.take j).length (metaV (l.take j)) := by rw [hll]; exact hR4
              have hkl : k < l.length := by omega
              obtain ⟨c0, c1, c2, c3, c4⟩ := meta_cells hR5 (j := k) (by omega)
              have hxk : (l.take j)[k]'(by omega) = l[k] := by simp
              obtain ⟨y, hy⟩ : ∃ y, y = l[k] := ⟨_, rfl⟩
              rw [hxk, ← hy] at c0 c1 c2 c3 c4
              have HPN := Lib.hid (show y.level = m.level → 0 < m.level → leS y.low m.high → leS m.low y.high → False from by
                rw [hy, HM.out]; exact fun a b c d => pair_not HCK.out hlk hlt a b c d)
              have HM4 := Lib.hid ((HB4.out.block _ (lt_of_heap HMc.out)).trans HMc.out)
              have m1 := cell_of_heap HM4.out 1
              have m2 := cell_of_heap HM4.out 2
              have m3 := cell_of_heap HM4.out 3
              have hm4 : wo.heap.size < w4.heap.size := lt_of_heap HM4.out
              have HB5 := Lib.hid (HB4.out.alloc hsz4 (.cells #[.int .i64 y.num, .int .i64 y.level, .string y.low, .string y.high, .int .i64 y.size] 42))
              clear hR4 hR5 hxk hy hAx
              go_wp2_with fail
              all_goals first
              | (go_roundw
                 case rel => exact ⟨k + 1, by rw [Int.natCast_add]; rfl, by omega, Lib.hid (HB4.out.alloc hsz4 _)⟩
                 case measure => simp [intOf]; omega)
              | (exfalso
                 have hq : (Op.bytesLess y.low.toList m.high.toList = true ∨ (y.low.toList == m.high.toList) = true) ∧ (Op.bytesLess m.low.toList y.high.toList = true ∨ (m.low.toList == y.high.toList) = true) := by assumption
                 exact HPN.out (by assumption) (by assumption) (hq.1.imp id (fun h => by simpa using h)) (hq.2.imp id (fun h => by simpa using h)))
          · have HB9 := Lib.hid (HBc.out.trans (HB4.out.mono (by have := HBc.out.size; omega)))
            go_wp2_with fail
            go_roundw
            case rel => exact ⟨j + 1, by rw [Int.natCast_add]; rfl, by omega, HB9⟩
            case measure => simp [intOf]; omega
    · have HB9 := Lib.hid (HB0.out.trans (HBw.out.mono (by omega)))
      go_wp2_with fail
      go_ret
      exact ⟨rfl, HB9.out⟩

end Go.Proofs.YtebkmpgmcldeoaaDoor
