/- Version.All, Man.Version, Man.Number. -/
import Derived.Test.YtebkmpgmcldeoaaDoorSg
import Derived.Test.YtebkmpgmcldeoaaDoorSj
import Derived.Deep.RegionHeld3
import Derived.Laws.ResultCell
namespace Go.Proofs.YtebkmpgmcldeoaaDoor
open Go Go.Proofs Go.RowKit Go.Sort
set_option linter.unusedVariables false

theorem results_cell {fn : Func} {p : Tmp} {ty : TypeId} (h : fn.results = #[.cell p ty]) (tmps : Array Value) (P : Program) (w : World) :
    (results fn tmps).run P w = ((asAddr (tmps.getD p undef)).run P w).andThen fun a w₁ => (loadVar ty a).run P w₁ := by
  simp only [results, h]
  simp [Sem.run_bind, Result.andThen]
/-- A return of a variable that is a struct. -/
theorem results_row {P : Program} {fn : Func} {p : Tmp} {ty : TypeId} (h : fn.results = #[.cell p ty]) (tmps : Array Value) (w : World) (g : Nat) (t : TypeId) (cs : Array Value) (fr : Nat × Nat)
    (hp : tmps.getD p undef = .pointer (some ⟨g, 0, none⟩)) (hg : w.heap[g]? = some (.cells cs t fr))
    (hud : ((P.underlying ty).map fun d => match d with | .struct _ | .array _ _ => true | _ => false) = some true) (hi : (P.info? ty).map (·.size) = some cs.size) :
    (results fn tmps).run P w = .ok (.agg cs) w := by
  have hl : (loadVar ty ⟨g, 0, none⟩).run P w = .ok (.agg cs) w := by
    obtain ⟨d, hu, hd⟩ := Option.map_eq_some_iff.1 hud
    refine run_loadVar_row w g t ty cs fr d hg hu ?_ hi
    cases d <;> first | rfl | cases hd
  rw [results_cell h, hp]
  simp [asAddr, hl, Result.andThen]

theorem metaV_one (l : List Meta) : ∀ u ∈ metaV l, u.oneCell' = true := by
  intro u hu
  simp only [metaV, List.mem_flatMap] at hu
  obtain ⟨m, _, hm⟩ := hu
  simp [Meta.cells] at hm
  rcases hm with rfl | rfl | rfl | rfl | rfl <;> rfl

set_option maxHeartbeats 1000000 in
set_option maxRecDepth 100000 in
theorem all_version_calls (w : World) {v : Value} {l : List Meta} (hr : Rds w 5 v l.length (metaV l)) (hv : ∀ k, v.ownBlock = some k → k < w.heap.size) (hl : l.length ≤ 1000000) (lg nx : Int) (sq : Nat) :
    Calls Tryd.prog 50 #[.agg #[v, .int .i64 lg, .int .i64 nx, .int .u64 sq]] w fun e w' => ∃ v', e = .returned (.agg #[v', .slice none 0 0, .int .i64 lg, .int .i64 nx, .int .u64 sq]) ∧ Own w' 42 5 v' l.length (metaV l) ∧ RowKit.Below w.heap.size w w' ∧ ∀ k, v'.ownBlock = some k → w.heap.size ≤ k := by
  obtain ⟨-, A, c, rfl, hc, -⟩ := id hr
  have HR := Lib.hid hr
  have HV := Lib.hid hv
  clear hr hv
  obtain ⟨W0, hW0⟩ : ∃ x, x = (w.alloc (.cells #[.slice A l.length c, .int .i64 lg, .int .i64 nx, .int .u64 sq] 37)).alloc (.cells #[.slice none 0 0, .slice none 0 0, .int .i64 0, .int .i64 0, .int .u64 0] 46) := ⟨_, rfl⟩
  have HW0 := Lib.hid hW0
  have HB0 := Lib.hid (show RowKit.Below w.heap.size w W0 by rw [hW0]; exact ((Below.refl _ _).alloc (Nat.le_refl _) _).alloc (by simp) _)
  have HE1 := Lib.hid (show W0.heap[w.heap.size + 1]? = some (.cells #[.slice none 0 0, .slice none 0 0, .int .i64 0, .int .i64 0, .int .u64 0] 46 (0, 0)) by
    rw [hW0]; have := heap_alloc_new (w.alloc (.cells #[.slice A l.length c, .int .i64 lg, .int .i64 nx, .int .u64 sq] 37)) (.cells #[.slice none 0 0, .slice none 0 0, .int .i64 0, .int .i64 0, .int .u64 0] 46); simpa using this)
  have HE0 := Lib.hid (show W0.heap[w.heap.size]? = some (.cells #[.slice A l.length c, .int .i64 lg, .int .i64 nx, .int .u64 sq] 37 (0, 0)) by
    rw [hW0, Below.heap_alloc _ _ _ (by simp)]; exact heap_alloc_new w _)
  clear hW0
  have hWl : w.heap.size + 1 < W0.heap.size := lt_of_heap HE1.out
  have c0 := cell_of_heap HE0.out 0
  have c1 := cell_of_heap HE0.out 1
  have c2 := cell_of_heap HE0.out 2
  have c3 := cell_of_heap HE0.out 3
  have HRW := Lib.hid (HR.out.keep (w' := W0.drew) fun q hq => HB0.out.block q (HV.out q hq))
  have HVW := Lib.hid (show ∀ q, (Value.slice A l.length c).ownBlock = some q → q < W0.drew.heap.size from fun q hq => Nat.lt_trans (HV.out q hq) (by show _ < W0.heap.size; omega))
  have HK := Lib.hid (clone_calls W0.drew HRW.out HVW.out (metaV_one l) (by omega))
  go_enter Tryd.func50, Tryd.ntmps50
  go_wp2_with fail
  rw [← HW0.out]
  go_region_held3 (fun w' => w'.cell? ⟨w.heap.size, 0, none⟩ = some (.slice A l.length c) ∧ w'.cell? ⟨w.heap.size, 1, none⟩ = some (.int .i64 lg) ∧ w'.cell? ⟨w.heap.size, 2, none⟩ = some (.int .i64 nx) ∧ w'.cell? ⟨w.heap.size, 3, none⟩ = some (.int .u64 sq))
    (first | go_keep | exact ⟨cell_of_heap EA.out 0, cell_of_heap EA.out 1, cell_of_heap EA.out 2, cell_of_heap EA.out 3⟩)
    (first
      | (go_at_call 31
         have hq := HK.out
         with_reducible refine hq.mono ?_
         rintro e wA ⟨vA, rfl, g1, g2, g3⟩
         obtain ⟨-, A9, c9, rfl, -⟩ := id g1.rds
         have EA := Lib.hid ((g2.block w.heap.size (by show _ < W0.heap.size; omega)).trans HE0.out)
         have ER := Lib.hid ((g2.block (w.heap.size + 1) (by show _ < W0.heap.size; omega)).trans HE1.out)
         have GO := Lib.hid g1
         have GB := Lib.hid (HB0.out.trans ((show RowKit.Below W0.heap.size W0 wA from ⟨g2.os, g2.tape, g2.output, g2.size, g2.block⟩).mono (by omega)))
         have GV := Lib.hid (show ∀ k, (Value.slice A9 l.length c9).ownBlock = some k → W0.heap.size ≤ k from g3)
         have r0 := cell_of_heap ER.out 0
         have r1 := cell_of_heap ER.out 1
         have r2 := cell_of_heap ER.out 2
         have r3 := cell_of_heap ER.out 3
         have r4 := cell_of_heap ER.out 4
         have s0 := free_of_heap ER.out 0
         have s1 := free_of_heap ER.out 1
         have s2 := free_of_heap ER.out 2
         have s3 := free_of_heap ER.out 3
         have s4 := free_of_heap ER.out 4
         clear hq g1 g2 g3))
  have RR := heap_setCell_same (heap_setCell_same (heap_setCell_same (heap_setCell_same (heap_setCell_same ER.out 0 (.slice A9 l.length c9)) 1 (.slice none 0 0)) 2 (.int .i64 lg)) 3 (.int .i64 nx)) 4 (.int .u64 sq)
  have KK := ((((((Keep.refl (· = w.heap.size + 1) wA).set _ (w.heap.size + 1) 0 rfl (.slice A9 l.length c9)).set _ _ 1 rfl (.slice none 0 0)).set _ _ 2 rfl (.int .i64 lg)).set _ _ 3 rfl (.int .i64 nx)).set _ _ 4 rfl (.int .u64 sq))
  have HR1 := Lib.hid RR
  have HKK := Lib.hid KK
  clear RR KK
  go_wp2_with fail
  (try simp only [Exit.inBlock, Exit.then])
  refine bodyPost_ret (results_row (by rfl) _ _ (w.heap.size + 1) 46 _ (0, 0) (by rfl) HR1.out tyEdit szEdit) (by rfl) ?_
  exact ⟨_, rfl, GO.out.keep fun q hq => HKK.out.block q (GO.out.lt q hq) (by have := GV.out q hq; omega), GB.out.trans (HKK.out.below (fun k e => by omega) GB.out.size), fun k hk => by have := GV.out k hk; omega⟩

theorem tyVers : ((Tryd.prog.underlying 37).map fun d => match d with | .struct _ | .array _ _ => true | _ => false) = some true := by kernel_rfl
theorem szVers : (Tryd.prog.info? 37).map (·.size) = some 4 := by kernel_rfl

/-- A list of edits on the disk, in memory. -/
def manCells (d : Nat) (n : Int) (fv : Value) (v : VersP) (op : Bool) : Array Value := #[.pointer (some ⟨d, 0, none⟩), .int .i64 n, fv, .int .i64 v.log, .int .i64 v.next, .int .u64 v.seq, .bool op]
structure ManAt (w : World) (mb d : Nat) (n : Int) (fv : Value) (v : VersP) (op : Bool) : Prop where
  head : w.heap[mb]? = some (.cells (manCells d n fv v op) 64 (0, 0))
  rds : Rds w 5 fv v.files.length (metaV v.files)
  lt : ∀ k, fv.ownBlock = some k → k < w.heap.size ∧ k ≠ mb
theorem ManAt.cells {w : World} {mb d : Nat} {n : Int} {fv : Value} {v : VersP} {op : Bool} (h : ManAt w mb d n fv v op) :
    w.cell? ⟨mb, 0, none⟩ = some (.pointer (some ⟨d, 0, none⟩)) ∧ w.cell? ⟨mb, 1, none⟩ = some (.int .i64 n) ∧ w.cell? ⟨mb, 2, none⟩ = some fv ∧ w.cell? ⟨mb, 3, none⟩ = some (.int .i64 v.log) ∧
    w.cell? ⟨mb, 4, none⟩ = some (.int .i64 v.next) ∧ w.cell? ⟨mb, 5, none⟩ = some (.int .u64 v.seq) ∧ w.cell? ⟨mb, 6, none⟩ = some (.bool op) :=
  ⟨cell_of_heap h.head 0, cell_of_heap h.head 1, cell_of_heap h.head 2, cell_of_heap h.head 3, cell_of_heap h.head 4, cell_of_heap h.head 5, cell_of_heap h.head 6⟩

set_option maxHeartbeats 400000 in
set_option maxRecDepth 100000 in
theorem number_calls (w : World) {mb d : Nat} {n : Int} {fv : Value} {v : VersP} {op : Bool} (h : ManAt w mb d n fv v op) :
    Calls Tryd.prog 12 #[.pointer (some ⟨mb, 0, none⟩)] w fun e w' => e = .returned (.int .i64 n) ∧ w = w' := by
  have c1 := h.cells.2.1
  clear h
  go_enter Tryd.func12, Tryd.ntmps12
  go_wp2
  go_ret
  exact ⟨rfl, rfl⟩
set_option maxRecDepth 100000 in
theorem number_nil (w : World) : Calls Tryd.prog 12 #[.pointer none] w fun e w' => e = .returned (.int .i64 0) ∧ w = w' := by
  go_enter Tryd.func12, Tryd.ntmps12
  go_wp2
  go_ret
  exact ⟨rfl, rfl⟩

set_option maxHeartbeats 400000 in
set_option maxRecDepth 100000 in
theorem version_nil (w : World) :
    Calls Tryd.prog 11 #[.pointer none] w fun e w' => e = .returned (.agg #[.slice none 0 0, .int .i64 0, .int .i64 0, .int .u64 0]) ∧ RowKit.Below w.heap.size w w' := by
  have HE := Lib.hid (heap_alloc_new w (.cells #[.slice none 0 0, .int .i64 0, .int .i64 0, .int .u64 0] 37))
  have HB := Lib.hid ((Below.refl w.heap.size w).alloc (Nat.le_refl _) (.cells #[.slice none 0 0, .int .i64 0, .int .i64 0, .int .u64 0] 37))
  go_enter Tryd.func11, Tryd.ntmps11
  go_wp2_with fail
  (try simp only [Exit.inBlock, Exit.then])
  refine bodyPost_ret (results_row (by rfl) _ _ w.heap.size 37 _ (0, 0) (by rfl) HE.out tyVers szVers) (by rfl) ?_
  exact ⟨rfl, HB.out⟩

set_option maxHeartbeats 1000000 in
set_option maxRecDepth 100000 in
theorem version_calls (w : World) {mb d : Nat} {n : Int} {fv : Value} {v : VersP} {op : Bool} (h : ManAt w mb d n fv v op) (hl : v.files.length ≤ 1000000) :
    Calls Tryd.prog 11 #[.pointer (some ⟨mb, 0, none⟩)] w fun e w' => ∃ v', e = .returned (.agg #[v', .int .i64 v.log, .int .i64 v.next, .int .u64 v.seq]) ∧ Own w' 42 5 v' v.files.length (metaV v.files) ∧ RowKit.Below w.heap.size w w' ∧ ∀ k, v'.ownBlock = some k → w.heap.size ≤ k := by
  obtain ⟨-, -, c2, c3, c4, c5, -⟩ := h.cells
  obtain ⟨hh, hr, hlt⟩ := h
  obtain ⟨fl, lg, nx, sq⟩ := v
  simp only at c2 c3 c4 c5 hr hlt hl ⊢
  obtain ⟨-, A, c, rfl, hc, -⟩ := id hr
  have hmb := lt_of_heap hh
  obtain ⟨W0, hW0⟩ : ∃ x, x = (w.alloc (.cells #[.slice none 0 0, .int .i64 0, .int .i64 0, .int .u64 0] 37)).alloc (.cells #[.slice A fl.length c, .int .i64 lg, .int .i64 nx, .int .u64 sq] 37) := ⟨_, rfl⟩
  have HW0 := Lib.hid hW0
  have HB0 := Lib.hid (show RowKit.Below w.heap.size w W0 by rw [hW0]; exact ((Below.refl _ _).alloc (Nat.le_refl _) _).alloc (by simp) _)
  have HE1 := Lib.hid (show W0.heap[w.heap.size + 1]? = some (.cells #[.slice A fl.length c, .int .i64 lg, .int .i64 nx, .int .u64 sq] 37 (0, 0)) by
    rw [hW0]; have := heap_alloc_new (w.alloc (.cells #[.slice none 0 0, .int .i64 0, .int .i64 0, .int .u64 0] 37)) (.cells #[.slice A fl.length c, .int .i64 lg, .int .i64 nx, .int .u64 sq] 37); simpa using this)
  have HE0 := Lib.hid (show W0.heap[w.heap.size]? = some (.cells #[.slice none 0 0, .int .i64 0, .int .i64 0, .int .u64 0] 37 (0, 0)) by
    rw [hW0, Below.heap_alloc _ _ _ (by simp)]; exact heap_alloc_new w _)
  have hWl : w.heap.size + 1 < W0.heap.size := lt_of_heap HE1.out
  have HRW := Lib.hid (hr.keep (w' := W0) fun q hq => HB0.out.block q (hlt q hq).1)
  have HVW := Lib.hid (show ∀ q, (Value.slice A fl.length c).ownBlock = some q → q < W0.heap.size from fun q hq => Nat.lt_trans (hlt q hq).1 (by omega))
  have HK := Lib.hid (clone_calls W0 HRW.out HVW.out (metaV_one fl) (by omega))
  clear hh hr hlt hW0
  go_enter Tryd.func11, Tryd.ntmps11
  go_wp2_with fail
  rw [← HW0.out]
  refine HK.out.mono ?_
  rintro e wA ⟨vA, rfl, g1, g2, g3⟩
  obtain ⟨-, A9, c9, rfl, -⟩ := id g1.rds
  have ER := Lib.hid ((g2.block w.heap.size (by omega)).trans HE0.out)
  have EA := Lib.hid ((g2.block (w.heap.size + 1) (by omega)).trans HE1.out)
  have GO := Lib.hid g1
  have GB := Lib.hid (HB0.out.trans (g2.mono (by omega)))
  have GV := Lib.hid (show ∀ k, (Value.slice A9 fl.length c9).ownBlock = some k → W0.heap.size ≤ k from g3)
  clear g1 g2 g3 c2 c3 c4 c5
  have a0 := cell_of_heap EA.out 0
  have a1 := cell_of_heap EA.out 1
  have a2 := cell_of_heap EA.out 2
  have a3 := cell_of_heap EA.out 3
  have b0 := free_of_heap EA.out 0
  have r0 := cell_of_heap ER.out 0
  have r1 := cell_of_heap ER.out 1
  have r2 := cell_of_heap ER.out 2
  have r3 := cell_of_heap ER.out 3
  have s0 := free_of_heap ER.out 0
  have s1 := free_of_heap ER.out 1
  have s2 := free_of_heap ER.out 2
  have s3 := free_of_heap ER.out 3
  obtain ⟨W3, hW3⟩ : ∃ x, x = ((((wA.setCell ⟨w.heap.size + 1, 0, none⟩ (.slice A9 fl.length c9)).setCell ⟨w.heap.size, 0, none⟩ (.slice A9 fl.length c9)).setCell ⟨w.heap.size, 1, none⟩ (.int .i64 lg)).setCell ⟨w.heap.size, 2, none⟩ (.int .i64 nx)).setCell ⟨w.heap.size, 3, none⟩ (.int .u64 sq) := ⟨_, rfl⟩
  have K3 := Lib.hid (show Keep (fun k => k = w.heap.size ∨ k = w.heap.size + 1) wA W3 by
    rw [hW3]; exact (((((Keep.refl _ wA).set _ (w.heap.size + 1) 0 (.inr rfl) _).set _ w.heap.size 0 (.inl rfl) _).set _ w.heap.size 1 (.inl rfl) _).set _ w.heap.size 2 (.inl rfl) _).set _ w.heap.size 3 (.inl rfl) _)
  have R3 := Lib.hid (show W3.heap[w.heap.size]? = some (.cells #[.slice A9 fl.length c9, .int .i64 lg, .int .i64 nx, .int .u64 sq] 37 (0, 0)) by
    rw [hW3]
    exact heap_setCell_same (heap_setCell_same (heap_setCell_same (heap_setCell_same ((heap_setCell_other (p := ⟨w.heap.size + 1, 0, none⟩) (by simp) _).trans ER.out) 0 _) 1 _) 2 _) 3 _)
  have HW3 := Lib.hid hW3
  clear hW3
  go_wp2_with fail
  (try simp only [Exit.inBlock, Exit.then])
  rw [← HW3.out]
  refine bodyPost_ret (results_row (by rfl) _ _ w.heap.size 37 _ (0, 0) (by rfl) R3.out tyVers szVers) (by rfl) ?_
  exact ⟨_, rfl, GO.out.keep fun q hq => K3.out.block q (GO.out.lt q hq) (by have := GV.out q hq; omega), GB.out.trans (K3.out.below (fun k e => by omega) GB.out.size), fun k hk => by have := GV.out k hk; omega⟩

end Go.Proofs.YtebkmpgmcldeoaaDoor
