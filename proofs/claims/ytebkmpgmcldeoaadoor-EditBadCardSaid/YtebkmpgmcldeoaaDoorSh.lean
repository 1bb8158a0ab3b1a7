/- Version.Of: a level's files, sorted. -/
import Derived.Test.YtebkmpgmcldeoaaDoorSh2
namespace Go.Proofs.YtebkmpgmcldeoaaDoor
open Go Go.Proofs Go.RowKit Go.Sort
set_option linter.unusedVariables false

def boundM (m : Meta) : Prop := 0 ≤ m.num ∧ m.num ≤ 1152921504606846976
instance (m : Meta) : Decidable (boundM m) := by unfold boundM; infer_instance
def liftB (l : List Meta) : List BM := l.map fun m => if h : boundM m then ⟨m, h⟩ else default
theorem liftB_eq : ∀ {lb : List BM} {l : List Meta}, lb.map (·.1) = l → lb = liftB l
  | [], l, h => by subst h; rfl
  | a :: lb, l, h => by
    subst h
    have ih := liftB_eq (lb := lb) rfl
    have ha : boundM a.1 := a.2
    simp only [liftB, List.map_cons] at ih ⊢
    rw [← ih, dif_pos ha]
/-- files, sorted by an order -/
def sortCf (cf : BM → BM → Int) (l : List Meta) : List Meta := sortedL cf (liftB l)
theorem sortCf_perm {cf : BM → BM → Int} (hO : SWO (ltOf cf)) {l : List Meta} (hb : ∀ m ∈ l, boundM m) : (sortCf cf l).Perm l := by
  obtain ⟨lb, h⟩ := lift_list l hb
  have := sortedL_perm hO lb
  rw [h] at this
  unfold sortCf
  rw [← liftB_eq h]; exact this

def ofL (lvl : Int) (l : List Meta) : List Meta := l.filter fun m => m.level == lvl
theorem ofL_length (lvl : Int) (l : List Meta) : (ofL lvl l).length ≤ l.length := List.length_filter_le _ _
set_option maxHeartbeats 1600000 in
set_option maxRecDepth 100000 in
theorem of_any (w : World) (lvl : Int) (cf : BM → BM → Int) (hO : SWO (ltOf cf))
    (hcl : ∀ (B : Nat) (x y : BM) (W : World), W.cell? ⟨B, 0, none⟩ = some (.int .i64 lvl) → B < W.heap.size → Calls Tryd.prog 85 #[.agg (encB x).toArray, .agg (encB y).toArray, .pointer (some ⟨B, 0, none⟩)] W fun e w' => e = .returned (.int .i64 (cf x y)) ∧ ∃ q os', w' = grow (W.drewN q) os')
    {v : Value} {l : List Meta} (hr : Rds w 5 v l.length (metaV l)) (hv : ∀ k, v.ownBlock = some k → k < w.heap.size) (hb : ∀ m ∈ l, boundM m) (hl : l.length ≤ 1000000) (lg nx : Int) (sq : Nat) :
    Calls Tryd.prog 66 #[.agg #[v, .int .i64 lg, .int .i64 nx, .int .u64 sq], .int .i64 lvl] w fun e w' => ∃ v', e = .returned v' ∧ Own w' 42 5 v' (ofL lvl l).length (metaV (sortCf cf (ofL lvl l))) ∧ Below w.heap.size w w' ∧ ∀ k, v'.ownBlock = some k → w.heap.size ≤ k := by
  obtain ⟨_, A, c, rfl, hc, hA, _⟩ := id hr
  have HR := Lib.hid hr
  have HV := Lib.hid hv
  have HB := Lib.hid hb
  have HCL := Lib.hid hcl
  clear hr hv hb hcl
  obtain ⟨w1, hw1⟩ : ∃ x, x = (w.alloc (.cells #[.slice A l.length c, .int .i64 lg, .int .i64 nx, .int .u64 sq] 37)).alloc (.cells #[.int .i64 lvl] 3) := ⟨_, rfl⟩
  have HW1 := Lib.hid hw1
  have HB1 := Lib.hid (show Below w.heap.size w w1 by rw [hw1]; exact ((Below.refl _ _).alloc (Nat.le_refl _) _).alloc (by simp) _)
  have HLV := Lib.hid (show w1.heap[w.heap.size + 1]? = some (.cells #[.int .i64 lvl] 3 (0, 0)) by
    rw [hw1]; have := heap_alloc_new (w.alloc (.cells #[.slice A l.length c, .int .i64 lg, .int .i64 nx, .int .u64 sq] 37)) (.cells #[.int .i64 lvl] 3); simpa using this)
  clear hw1
  go_enter Tryd.func66, Tryd.ntmps66
  go_wp2_with fail
  rw [← HW1.out]
  go_loopw [11, 5, 7] (fun i ov _ wr => ∃ (j : Nat) (ms : List Meta), i = .int .i64 j ∧ j ≤ l.length ∧ Hid (ms = ofL lvl (l.take j)) ∧ Hid (Own wr 42 5 ov ms.length (metaV ms)) ∧ Hid (∀ q, ov.ownBlock = some q → w.heap.size + 1 < q) ∧ Hid (Below w.heap.size w wr) ∧ Hid (wr.heap[w.heap.size + 1]? = some (.cells #[.int .i64 lvl] 3 (0, 0)))) (fun i _ _ _ => l.length - (intOf i).toNat)
  case atStart => exact ⟨0, [], rfl, Nat.zero_le _, Lib.hid rfl, Lib.hid (Own.nil _ _ _), Lib.hid (fun k hk => by cases hk), HB1, HLV⟩
  case round =>
    obtain ⟨j, ms, rfl, hj, HM, HO, HOB, HBw, HL⟩ := hrel
    by_cases hlt : j < l.length
    · cases A with
      | none => have := (hA rfl).1; omega
      | some a =>
        obtain ⟨bb, oo, ss⟩ := a
        have hsp : ss = none := by obtain ⟨_, A', c', he, _, _, hcc⟩ := HR.out; injection he with he _ _; exact (hcc _ he.symm).1
        subst hsp
        have hRw : Rds wr 5 (.slice (some ⟨bb, oo, none⟩) l.length c) l.length (metaV l) := HR.out.keep fun q hq => HBw.out.block q (HV.out q hq)
        obtain ⟨c0, c1, c2, c3, c4⟩ := meta_cells hRw hlt
        obtain ⟨m, hm⟩ : ∃ m, m = l[j] := ⟨_, rfl⟩
        rw [← hm] at c0 c1 c2 c3 c4
        have HT := Lib.hid (show ofL lvl (l.take (j + 1)) = ms ++ (if m.level == lvl then [m] else []) by
          rw [HM.out, List.take_succ_eq_append_getElem hlt, ← hm]; unfold ofL; rw [List.filter_append]; congr 1; simp only [List.filter_cons, List.filter_nil])
        have hml : ms.length ≤ j := by rw [HM.out]; exact Nat.le_trans (List.length_filter_le _ _) (by rw [List.length_take]; omega)
        obtain ⟨m0, m1, m2, m3, m4⟩ := m
        simp only at c0 c1 c2 c3 c4 HT
        have clv := cell_of_heap HL.out 0
        have hne : w.heap.size + 1 < wr.heap.size := lt_of_heap HL.out
        have hwl : w.heap.size ≤ wr.heap.size := HBw.out.size
        clear hRw hm hA
        obtain ⟨W1, hW1⟩ : ∃ x, x = wr.alloc (.cells #[.int .i64 m0, .int .i64 m1, .string m2, .string m3, .int .i64 m4] 42) := ⟨_, rfl⟩
        have HO1 := Lib.hid (show Own W1 42 5 u5 ms.length (metaV ms) by rw [hW1]; exact HO.out.keep fun q hq => Below.heap_alloc _ _ _ (HO.out.lt q hq))
        have HL1 := Lib.hid (show W1.heap[w.heap.size + 1]? = some (.cells #[.int .i64 lvl] 3 (0, 0)) by rw [hW1]; exact (Below.heap_alloc _ _ _ hne).trans HL.out)
        have HB1 := Lib.hid (show Below w.heap.size w W1 by rw [hW1]; exact HBw.out.alloc hwl _)
        have HS1 := Lib.hid (show W1.heap.size = wr.heap.size + 1 by rw [hW1]; simp)
        have HW := Lib.hid hW1
        clear hW1
        by_cases hlv : m1 = lvl
        · have hlb : (m1 == lvl) = true := by rw [beq_iff_eq]; exact hlv
          have HT' := Lib.hid (show ofL lvl (l.take (j + 1)) = ms ++ [⟨m0, m1, m2, m3, m4⟩] by rw [HT.out, hlb]; rfl)
          have hkb : ms.length + 1 ≤ 4294967296 := by omega
          clear hlv HT HO HL HBw
          go_wp2_with (at_builtin; rw [← HW.out]; go_must (refine app_elem W1 rfl _ _ 34 42 rfl 5 56 (.agg #[.int .i64 0, .int .i64 0, .string ⟨#[]⟩, .string ⟨#[]⟩, .int .i64 0]) tyMetas info_meta rfl (by decide) (v := u5) rfl HO1.out #[.int .i64 m0, .int .i64 m1, .string m2, .string m3, .int .i64 m4] rfl (by simp [Value.oneCell']) (by rw [HS1.out]; rfl) hkb (by omega) ?_); intro A9 n9 c9 w7 hn9 HAV)
          have HOB7 := Lib.hid (show ∀ q, (Value.slice A9 n9 c9).ownBlock = some q → w.heap.size + 1 < q from fun q hq => (HAV.out.2.2 q hq).elim (HOB.out q) fun h => Nat.lt_of_lt_of_le (lt_of_heap HL1.out) h)
          have HB7 := Lib.hid (HB1.out.trans (HAV.out.2.1.below (fun k hk => by have := HOB.out k hk; omega) HB1.out.size))
          have HL7 := Lib.hid ((HAV.out.2.1.block _ (lt_of_heap HL1.out) (fun h => by have := HOB.out _ h; omega)).trans HL1.out)
          go_roundw
          case rel => exact ⟨j + 1, ms ++ [⟨m0, m1, m2, m3, m4⟩], by rw [Int.natCast_add]; rfl, by omega, Lib.hid HT'.out.symm, Lib.hid (by rw [List.length_append]; simpa [metaV, Meta.cells] using HAV.out.1), HOB7, HB7, HL7⟩
          case measure => simp [intOf]; omega
        · have hlb : (m1 == lvl) = false := by rw [beq_eq_false_iff_ne]; exact hlv
          have HT' := Lib.hid (show ofL lvl (l.take (j + 1)) = ms by rw [HT.out, hlb]; simp)
          clear hlv HT HO HL HBw
          go_wp2_with fail
          rw [← HW.out]
          go_roundw
          case rel => exact ⟨j + 1, ms, by rw [Int.natCast_add]; rfl, by omega, Lib.hid HT'.out.symm, HO1, HOB, HB1, HL1⟩
          case measure => simp [intOf]; omega
    · obtain rfl : j = l.length := by omega
      have HM' := Lib.hid (show ms = ofL lvl l by rw [HM.out, List.take_length])
      have hms : ms.length ≤ 4294967296 := by rw [HM'.out]; exact Nat.le_trans (ofL_length _ _) (by omega)
      have HBM := Lib.hid (show ∀ m ∈ ms, boundM m from fun m hm => HB.out m (by rw [HM'.out] at hm; exact (List.mem_filter.1 hm).1))
      clear HM hlt
      have hcon := sort_own wr HBM.out HO.out hms cf hO 85 #[.pointer (some ⟨w.heap.size + 1, 0, none⟩)] (fun _ _ => by kernel_rfl) (fun x y W hk => by
        have h1 := (hk.block _ (lt_of_heap HL.out) (fun h => by have := HOB.out _ h; omega)).trans HL.out
        exact HCL.out (w.heap.size + 1) x y W (cell_of_heap h1 0) (lt_of_heap h1))
      go_wp2_with fail
      refine hcon.mono ?_
      rintro e w' ⟨rfl, lb, hlb, hOw, hKp⟩
      have HF := Lib.hid (show Own w' 42 5 u5 (ofL lvl l).length (metaV (sortCf cf (ofL lvl l))) by
        rw [← HM'.out]; unfold sortCf; rw [← liftB_eq hlb]; exact hOw)
      have HB2 := Lib.hid (HBw.out.trans (hKp.below (fun k hk => by have := HOB.out k hk; omega) HBw.out.size))
      have HOB' := Lib.hid (show ∀ q, u5.ownBlock = some q → w.heap.size ≤ q from fun q hq => by have := HOB.out q hq; omega)
      clear hlb hOw hKp
      go_wp2_with fail
      go_ret
      exact ⟨_, rfl, HF.out, HB2.out, HOB'.out⟩

def downCf (x y : BM) : Int := y.1.num - x.1.num
theorem downLt (x y : BM) : ltOf downCf x y = decide (y.1.num - x.1.num < 0) := rfl
theorem downSWO : SWO (ltOf downCf) where
  irrefl x := by rw [downLt, decide_eq_false_iff_not]; omega
  trans x y z h1 h2 := by rw [downLt, decide_eq_true_eq] at *; omega
  ntrans x y z h1 h2 := by rw [downLt, decide_eq_false_iff_not] at *; omega

theorem of_calls (w : World) (lvl : Int) (hl0 : lvl ≠ 0) {v : Value} {l : List Meta} (hr : Rds w 5 v l.length (metaV l)) (hv : ∀ k, v.ownBlock = some k → k < w.heap.size) (hb : ∀ m ∈ l, boundM m) (hl : l.length ≤ 1000000) (lg nx : Int) (sq : Nat) :
    Calls Tryd.prog 66 #[.agg #[v, .int .i64 lg, .int .i64 nx, .int .u64 sq], .int .i64 lvl] w fun e w' => ∃ v', e = .returned v' ∧ Own w' 42 5 v' (ofL lvl l).length (metaV (sortCf lowCf (ofL lvl l))) ∧ Below w.heap.size w w' ∧ ∀ k, v'.ownBlock = some k → w.heap.size ≤ k :=
  of_any w lvl lowCf lowSWO (fun B x y W hc hB => ofCl_calls lvl hl0 B x y W hc hB) hr hv hb hl lg nx sq

end Go.Proofs.YtebkmpgmcldeoaaDoor
