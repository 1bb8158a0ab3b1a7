/- Edits that are read. -/
import Derived.Test.YtebkmpgmcldeoaaDoorU
import Derived.Deep.RegionLaw
import Derived.IntWalk
import Derived.Deep.Cut
import Derived.Laws.ResultCell
import Derived.Laws.Rows
namespace Go.Proofs.YtebkmpgmcldeoaaDoor
open Go.RowKit
set_option linter.unusedVariables false

/-- A return of a variable that is a struct, and of a number. -/
theorem results_row_tmp {P : Program} {fn : Func} {p u : Tmp} {ty : TypeId} (h : fn.results = #[.cell p ty, .tmp u]) (tmps : Array Value) (w : World) (g : Nat) (t : TypeId) (cs : Array Value) (fr : Nat × Nat)
    (hp : tmps.getD p undef = .pointer (some ⟨g, 0, none⟩)) (hg : w.heap[g]? = some (.cells cs t fr))
    (hud : ((P.underlying ty).map fun d => match d with | .struct _ | .array _ _ => true | _ => false) = some true) (hi : (P.info? ty).map (·.size) = some cs.size) :
    (results fn tmps).run P w = .ok (.tuple #[.agg cs, tmps.getD u undef]) w := by
  have hl : (loadVar ty ⟨g, 0, none⟩).run P w = .ok (.agg cs) w := by
    obtain ⟨d, hu, hd⟩ := Option.map_eq_some_iff.1 hud
    refine run_loadVar_row w g t ty cs fr d hg hu ?_ hi
    cases d <;> first | rfl | cases hd
  rw [results_cell_tmp h, hp]
  simp [asAddr, hl, Result.andThen]

/-- append, at a step of a region that draws its order. -/
theorem step_append_to {W : World} {ops : Array Oper} {o : Oper} {a : Act} {K : Act → World → Prop} {Q : Exit → Act → World → Prop} {R : Prop} (hgd : o.guard = none) (s x : Operand) (T E : TypeId)
    (ho : o.op = .call { callee := .builtin .append, args := #[s, x], argTypes := #[T, T] })
    (size bytes : Nat) (z : Value) (hT : Tryd.prog.underlying T = some (.slice E)) (hi : (Tryd.prog.info? E).map (fun i => (i.zero, i.size, i.bytes)) = some (some z, size, bytes)) (hzs : z.cells.size = size) (hsz : 0 < size)
    (v : Value) (n : Nat) (xs : List Value) (hs : a.eval s = v) (hown : Own W E size v n xs) (xv : Value) (m : Nat) (news : List Value) (hx : a.eval x = xv) (hsrc : Rds W size xv m news) (h1 : ∀ u ∈ news, u.oneCell' = true)
    (h63 : n + m ≤ 4294967296) (hby : bytes ≤ 4096)
    (h : ∀ A' n' c' w', Hid (n' = n + m) → Hid (AppV W w' E size v (.slice A' n' c') (n + m) (xs ++ news)) → K (a.put o.dst (.slice A' n' c')) w') : if Region.wanted o (yielded ops a.tmps) = true then Oper.wp Tryd.prog o a W K Q else R := by
  have hw : Region.wanted o (yielded ops a.tmps) = true := by simp [Region.wanted, hgd]
  rw [if_pos hw]
  obtain ⟨i, hi, hz, hsize, hbyt⟩ := info_parts hi
  obtain ⟨v', w', hr, h2, h3, h4⟩ := run_append_to (P := Tryd.prog) W T o.type E i z size bytes hT hi hz hsize hbyt hzs hsz hown hsrc h1 (by unfold maxLen; omega) (Nat.le_trans (Nat.mul_le_mul h63 hby) (by omega))
  unfold Oper.wp execOp
  simp only [ho, resolve, invoke, builtin, Sem.run_bind, Sem.run_pure, Result.andThen_ok, List.map_toArray, List.map_cons, List.map_nil, hs, hx, hr]
  obtain ⟨A', c', rfl, _⟩ := h2.rds.2
  exact h A' _ c' w' (Lib.hid rfl) (Lib.hid ⟨h2, Keep.of_grown h3 fun k hk => hk, fun k hk => h4.elim (fun e => .inl (e ▸ hk)) fun e => .inr (by rw [e] at hk; injection hk with hk; omega)⟩)

/-- append of one element that lies in a new block, at a step of a region that draws its order -/
theorem step_app_elem (w : World) {ops : Array Oper} {o : Oper} {a : Act} {K : Act → World → Prop} {Q : Exit → Act → World → Prop} {R : Prop} (hgd : o.guard = none) (s x : Operand) (T E : TypeId)
    (ho : o.op = .call { callee := .builtin .append, args := #[s, x], argTypes := #[T, T] })
    (size bytes : Nat) (z : Value) (hT : Tryd.prog.underlying T = some (.slice E)) (hi : (Tryd.prog.info? E).map (fun i => (i.zero, i.size, i.bytes)) = some (some z, size, bytes)) (hzs : z.cells.size = size) (hsz : 0 < size)
    {v : Value} {n : Nat} {xs : List Value} (hs : a.eval s = v) (hown : Own w E size v n xs) (cs : Array Value) (hcs : cs.size = size) (h1 : ∀ u ∈ cs.toList, u.oneCell' = true) (hx : a.eval x = .slice (some ⟨w.heap.size, 0, none⟩) 1 1)
    (h63 : n + 1 ≤ 4294967296) (hby : bytes ≤ 4096)
    (h : ∀ A' n' c' w', Hid (n' = n + 1) → Hid (AppV w w' E size v (.slice A' n' c') (n + 1) (xs ++ cs.toList)) → K (a.put o.dst (.slice A' n' c')) w') : if Region.wanted o (yielded ops a.tmps) = true then Oper.wp Tryd.prog o a (w.alloc (.cells cs E)) K Q else R := by
  have hr : Rds (w.alloc (.cells cs E)) size (.slice (some ⟨w.heap.size, 0, none⟩) 1 1) 1 cs.toList := (Own.made (e := E) (size := size) (n := 1) w cs (by omega) (by unfold maxLen; omega)).rds
  refine step_append_to hgd s x T E ho size bytes z hT hi hzs hsz v n xs hs (hown.keep fun k hk => Below.heap_alloc _ _ _ (hown.lt k hk)) _ 1 cs.toList hx hr h1 h63 hby fun A' n' c' w' hn' hA => ?_
  obtain ⟨g1, g2, g3⟩ := hA.out
  refine h A' n' c' w' hn' (Lib.hid ⟨g1, (Keep.alloc _ w _).step g2 (fun i hi => .inl hi), fun k hk => (g3 k hk).imp id fun e => Nat.le_trans (by simp) e⟩)

structure Meta where
  num : Int
  level : Int
  low : ByteArray
  high : ByteArray
  size : Int
def Meta.cells (m : Meta) : List Value := [.int .i64 m.num, .int .i64 m.level, .string m.low, .string m.high, .int .i64 m.size]
def metaV (l : List Meta) : List Value := l.flatMap Meta.cells
def intV (l : List Int) : List Value := l.map (Value.int .i64)
theorem metaV_length (l : List Meta) : (metaV l).length = l.length * 5 := by
  induction l with
  | nil => rfl
  | cons a l ih =>
    have : metaV (a :: l) = a.cells ++ metaV l := by simp [metaV]
    rw [this, List.length_append, ih]; simp [Meta.cells]; omega
theorem metaV_append (a b : List Meta) : metaV (a ++ b) = metaV a ++ metaV b := by simp [metaV]

structure EditP where
  add : List Meta
  del : List Int
  log : Int
  next : Int
  seq : Nat

def delsR : Nat → RS → RS × List Int
  | 0, s => (s, [])
  | k + 1, s => ((delsR k (takeR s 1073741824).1).1, ((takeR s 1073741824).2 : Int) :: (delsR k (takeR s 1073741824).1).2)
def metaR (s : RS) : RS × Meta :=
  let a := takeR s 1073741824
  let b := takeR a.1 5
  let c := takeR b.1 67108864
  let d := textR c.1
  let e := textR d.1
  (e.1, ⟨a.2, b.2, ⟨d.2.toArray⟩, ⟨e.2.toArray⟩, c.2⟩)
def addsR : Nat → RS → RS × List Meta
  | 0, s => (s, [])
  | k + 1, s => ((addsR k (metaR s).1).1, (metaR s).2 :: (addsR k (metaR s).1).2)

def head3 (b : List UInt8) : RS × Nat × Nat × Nat :=
  let a := takeR ⟨b, false⟩ 1073741824
  let c := takeR a.1 1073741824
  let d := takeR c.1 72057594037927935
  (d.1, a.2, c.2, d.2)

/-- the edit of bytes -/
def decodeR (b : List UInt8) : EditP × Int :=
  let h := head3 b
  let nd := takeR h.1 1000
  let ds := delsR nd.2 nd.1
  let na := takeR ds.1 1000
  let ads := addsR na.2 na.1
  if ads.1.bad = true ∨ 0 < ads.1.l.length then (⟨[], [], 0, 0, 0⟩, 2) else (⟨ads.2, ds.2, h.2.1, h.2.2.1, h.2.2.2⟩, 0)

theorem info_meta : (Tryd.prog.info? 42).map (fun i => (i.zero, i.size, i.bytes)) = some (some (.agg #[.int .i64 0, .int .i64 0, .string ⟨#[]⟩, .string ⟨#[]⟩, .int .i64 0]), 5, 56) := by kernel_rfl
theorem info_int : (Tryd.prog.info? 3).map (fun i => (i.zero, i.size, i.bytes)) = some (some (.int .i64 0), 1, 8) := by kernel_rfl
theorem tyMetas : Tryd.prog.underlying 34 = some (.slice 42) := by kernel_rfl
theorem tyEdit : ((Tryd.prog.underlying 46).map fun d => match d with | .struct _ | .array _ _ => true | _ => false) = some true := by kernel_rfl
theorem szEdit : (Tryd.prog.info? 46).map (·.size) = some 5 := by kernel_rfl
theorem tyInts : Tryd.prog.underlying 44 = some (.slice 3) := by kernel_rfl

/-- While an edit is read: the reader and the result's cells. -/
structure DI (w : World) (wr : World) (s : RS) : Prop where
  rdr : RdrIs wr (w.heap.size + 1) s
  res : wr.heap[w.heap.size]? = some (.cells #[.slice none 0 0, .slice none 0 0, .int .i64 0, .int .i64 0, .int .u64 0] 46 (0, 0))
  below : Below w.heap.size w wr
theorem DI.step {w wr w' : World} {s s' : RS} (h : DI w wr s) (hr : RdrIs w' (w.heap.size + 1) s') (hk : Keep (· = w.heap.size + 1) wr w') : DI w w' s' :=
  ⟨hr, (hk.block _ (lt_of_heap h.res) (by omega)).trans h.res, h.below.trans (hk.below (fun k e => by omega) h.below.size)⟩
theorem DI.keep {w wr w' : World} {s : RS} {F : Nat → Prop} (h : DI w wr s) (hk : Keep F wr w') (hF : ∀ k, F k → w.heap.size + 1 < k) : DI w w' s :=
  ⟨h.rdr.keep fun k hle => hk.block k (by obtain ⟨x, h1, _⟩ := h.rdr; have := lt_of_heap h1; omega) fun hf => by have := hF k hf; omega, (hk.block _ (lt_of_heap h.res) fun hf => by have := hF _ hf; omega).trans h.res,
    h.below.trans (hk.below (fun k hf => by have := hF k hf; omega) h.below.size)⟩
theorem DI.lt {w wr : World} {s : RS} (h : DI w wr s) : w.heap.size + 1 < wr.heap.size := by obtain ⟨x, h1, _⟩ := h.rdr; exact lt_of_heap h1

set_option maxHeartbeats 1600000 in
set_option maxRecDepth 100000 in
theorem decode_calls (w : World) {v : Value} {b : List UInt8} (hr : RdB w v b) (hv : ∀ k, v.ownBlock = some k → k < w.heap.size) (hl : b.length ≤ 4294967000) :
    Calls Tryd.prog 28 #[v] w fun e w' => ∃ av dv, e = .returned (.tuple #[.agg #[av, dv, .int .i64 (decodeR b).1.log, .int .i64 (decodeR b).1.next, .int .u64 (decodeR b).1.seq], .int .i64 (decodeR b).2]) ∧
      Own w' 42 5 av (decodeR b).1.add.length (metaV (decodeR b).1.add) ∧ Own w' 3 1 dv (decodeR b).1.del.length (intV (decodeR b).1.del) ∧ Below w.heap.size w w' ∧
      (∀ k, av.ownBlock = some k → w.heap.size ≤ k) ∧ ∀ k, dv.ownBlock = some k → w.heap.size ≤ k := by
  obtain ⟨_, A, c, rfl, hc, _⟩ := id hr
  have HD0 : Hid (DI w ((w.alloc (.cells #[.slice none 0 0, .slice none 0 0, .int .i64 0, .int .i64 0, .int .u64 0] 46)).alloc (.cells #[.slice A b.length c, .bool false] 91)) ⟨b, false⟩) := by
    refine ⟨⟨_, ?_, ?_, fun k hk => Nat.lt_of_lt_of_le (hv k hk) (Nat.le_succ _), hl⟩, ?_, ((Below.refl _ _).alloc (Nat.le_refl _) _).alloc (by simp) _⟩
    · have := heap_alloc_new (w.alloc (.cells #[.slice none 0 0, .slice none 0 0, .int .i64 0, .int .i64 0, .int .u64 0] 46)) (.cells #[.slice A b.length c, .bool false] 91)
      simpa using this
    · exact hr.keep fun k hk => by rw [Below.heap_alloc _ _ _ (by have := hv k hk; simp; omega), Below.heap_alloc _ _ _ (hv k hk)]
    · rw [Below.heap_alloc _ _ _ (by simp)]; exact heap_alloc_new w _
  obtain ⟨⟨s3, lg, nx, sq⟩, hh3⟩ : ∃ q, head3 b = q := ⟨_, rfl⟩
  have HH3 := Lib.hid hh3
  clear hv hr hh3
  go_enter Tryd.func28, Tryd.ntmps28
  go_wp2_with fail
  refine (take_calls _ HD0.out.rdr 1073741824 (by omega)).mono ?_
  rintro e w1 ⟨rfl, q1, q2⟩
  have hb1 := (takeR_len ⟨b, false⟩ 1073741824).2
  have HD1 := Lib.hid (HD0.out.step q1 q2)
  clear q1 q2
  obtain ⟨⟨s1, n1⟩, hs1⟩ : ∃ q, takeR ⟨b, false⟩ 1073741824 = q := ⟨_, rfl⟩
  rw [hs1] at hb1 HD1 ⊢
  have HS1 := Lib.hid hs1
  clear hs1
  simp only at hb1 HD1
  go_wp2_with fail
  refine (take_calls _ HD1.out.rdr 1073741824 (by omega)).mono ?_
  rintro e w2 ⟨rfl, q1, q2⟩
  have hb2 := (takeR_len s1 1073741824).2
  have HD2 := Lib.hid (HD1.out.step q1 q2)
  clear q1 q2
  obtain ⟨⟨s2, n2⟩, hs2⟩ : ∃ q, takeR s1 1073741824 = q := ⟨_, rfl⟩
  rw [hs2] at hb2 HD2 ⊢
  have HS2 := Lib.hid hs2
  clear hs2
  simp only at hb2 HD2
  go_wp2_with fail
  refine (take_calls _ HD2.out.rdr 72057594037927935 (by omega)).mono ?_
  rintro e w3 ⟨rfl, q1, q2⟩
  have hb3 := (takeR_len s2 72057594037927935).2
  have HD3 := Lib.hid (HD2.out.step q1 q2)
  clear q1 q2
  obtain ⟨⟨s3', n3⟩, hs3⟩ : ∃ q, takeR s2 72057594037927935 = q := ⟨_, rfl⟩
  rw [hs3] at hb3 HD3 ⊢
  simp only at hb3 HD3
  have HH := Lib.hid (show s3' = s3 ∧ n1 = lg ∧ n2 = nx ∧ n3 = sq by
    have := HH3.out
    unfold head3 at this
    simp only [HS1.out, HS2.out, hs3] at this
    simpa using this)
  clear hs3
  obtain ⟨rfl, rfl, rfl, rfl⟩ := HH.out
  have hlt3 := HD3.out.lt
  have HE := Lib.hid (heap_alloc_new w3 (.cells #[.slice none 0 0, .slice none 0 0, .int .i64 n1, .int .i64 n2, .int .u64 n3] 46))
  have HD4 := Lib.hid (HD3.out.keep (Keep.alloc (fun _ => False) w3 (.cells #[.slice none 0 0, .slice none 0 0, .int .i64 n1, .int .i64 n2, .int .u64 n3] 46)) (fun _ h => h.elim))
  go_wp2_with fail
  refine (take_calls _ HD4.out.rdr 1000 (by omega)).mono ?_
  rintro e w4 ⟨rfl, q1, q2⟩
  have hb4 := (takeR_len s3' 1000).2
  have HD5 := Lib.hid (HD4.out.step q1 q2)
  have HE5 := Lib.hid ((q2.block w3.heap.size (lt_of_heap HE.out) (by omega)).trans HE.out)
  have hlt5 : w3.heap.size < w4.heap.size := lt_of_heap HE5.out
  clear q1 q2
  obtain ⟨⟨s4, nd⟩, hs4⟩ : ∃ q, takeR s3' 1000 = q := ⟨_, rfl⟩
  rw [hs4] at hb4 HD5 ⊢
  have HS4 := Lib.hid hs4
  clear hs4
  simp only at hb4 HD5
  generalize hE0 : w3.heap.size = E0 at *
  have HE0 := Lib.hid hE0
  clear hE0
  go_wp2_with fail
  go_loopw [22] (fun i wr => ∃ (j k : Nat) (ds : List Int) (dv : Value) (s : RS), i = .int .i64 j ∧ j + k = nd ∧ Hid (ds.length = j) ∧ Hid (DI w wr s) ∧ Hid (wr.heap[E0]? = some (.cells #[.slice none 0 0, dv, .int .i64 n1, .int .i64 n2, .int .u64 n3] 46 (0, 0))) ∧ Hid (Own wr 3 1 dv j (intV ds)) ∧ Hid (∀ q, dv.ownBlock = some q → E0 < q) ∧
      Hid (delsR nd s4 = ((delsR k s).1, ds ++ (delsR k s).2))) (fun i _ => nd - (intOf i).toNat)
  case atStart => exact ⟨0, nd, [], .slice none 0 0, s4, rfl, Nat.zero_add _, Lib.hid rfl, HD5, HE5, Lib.hid (Own.nil _ _ _), Lib.hid (fun k hk => by cases hk), Lib.hid (by simp)⟩
  case round =>
    obtain ⟨j, k, ds, dv, s, rfl, hjk, HL, HD, HEr, HO, HOB, HQ⟩ := hrel
    by_cases hlt : j < nd
    · obtain ⟨k, rfl⟩ : ∃ m, k = m + 1 := ⟨k - 1, by omega⟩
      have cE := cell_of_heap HEr.out 1
      have fE := free_of_heap HEr.out 1
      have hS : delsR (k + 1) s = ((delsR k (takeR s 1073741824).1).1, ((takeR s 1073741824).2 : Int) :: (delsR k (takeR s 1073741824).1).2) := rfl
      have hb5 := (takeR_len s 1073741824).2
      obtain ⟨⟨s', x⟩, hsx⟩ : ∃ q, takeR s 1073741824 = q := ⟨_, rfl⟩
      rw [hsx] at hS hb5
      have HSX := Lib.hid hsx
      have HS := Lib.hid hS
      clear hsx hS
      simp only at hb5
      go_wp2_with fail
      have HDr := Lib.hid (HD.out.keep (Keep.drew (fun _ => False) wr) fun _ h => h.elim)
      have HEd := Lib.hid (show wr.drew.heap[E0]? = _ from HEr.out)
      have hne : ¬ E0 = w.heap.size + 1 := by omega
      have hjb : j + 1 ≤ 4294967296 := by omega
      have hwx : IntKind.i64.wrap (x : Int) = x := IntWalk.i64_in _ (by omega)
      go_region_law (first
        | (go_simp
           go_at_call 44
           refine (take_calls _ HDr.out.rdr 1073741824 (by omega)).mono ?_
           rintro e w5 ⟨rfl, q1, q2⟩
           rw [HSX.out] at q1 ⊢
           have HD5 := Lib.hid (HDr.out.step q1 q2)
           have HE5 := Lib.hid ((q2.block E0 (lt_of_heap HEd.out) hne).trans HEd.out)
           have HO5 := Lib.hid ((HO.out.keep (w' := wr.drew) fun _ _ => rfl).keep (w' := w5) fun q hq => q2.block q (HO.out.lt q hq) (by have := HOB.out q hq; omega))
           have c5 := cell_of_heap HE5.out 1
           have HE5' := Lib.hid ((Below.heap_alloc w5 (.cells #[.int .i64 x] 3) _ (lt_of_heap HE5.out)).trans HE5.out)
           have c5' := cell_of_heap HE5'.out 1
           clear q1 q2)
        | (refine step_app_elem w5 (by rfl) _ _ 44 3 (by rfl) 1 8 (.int .i64 0) tyInts info_int rfl (by decide) (v := dv) (by rfl) HO5.out #[.int .i64 x] rfl (by simp [Value.oneCell']) (by rfl) hjb (by omega) ?_
           intro A9 n9 c9 w6 hn9 HA
           have HE6 := Lib.hid ((HA.out.2.1.block E0 (lt_of_heap HE5.out) (fun h => by have := HOB.out _ h; omega)).trans HE5.out)
           have c6 := cell_of_heap HE6.out 1
           have f6 := free_of_heap HE6.out 1))
      all_goals
        have HOB6 := Lib.hid (show ∀ q, (Value.slice A9 n9 c9).ownBlock = some q → E0 < q from fun q hq => (HA.out.2.2 q hq).elim (HOB.out q) fun h => Nat.lt_of_lt_of_le (lt_of_heap HE5.out) h)
        have HD6 := Lib.hid (HD5.out.keep HA.out.2.1 fun q hq => by have := HOB.out q hq; omega)
        have HK7 := Lib.hid ((Keep.refl (· = E0) w6).set _ E0 1 rfl (.slice A9 n9 c9))
        have HD7 := Lib.hid (HD6.out.keep HK7.out fun q hq => by omega)
        have HE7 := Lib.hid (heap_setCell_same HE6.out 1 (.slice A9 n9 c9))
        have HO7 := Lib.hid (HA.out.1.keep (w' := w6.setCell ⟨E0, 1, none⟩ (.slice A9 n9 c9)) fun q hq => HK7.out.block q (HA.out.1.lt q hq) (by have := HOB6.out q hq; omega))
        go_wp2_with fail
        go_roundw
        case rel => exact ⟨j + 1, k, ds ++ [(x : Int)], _, s', by rw [Int.natCast_add]; rfl, by omega, Lib.hid (by simp [HL.out]), HD7, HE7, Lib.hid (by simpa [intV] using HO7.out), HOB6, Lib.hid (by rw [HQ.out, HS.out]; simp)⟩
        case measure => simp [intOf]; omega
    · obtain rfl : k = 0 := by omega
      obtain rfl : j = nd := by omega
      have HQ' := Lib.hid (show delsR j s4 = (s, ds) by rw [HQ.out]; simp [delsR])
      have HLds := Lib.hid (show ds.length = j from HL.out)
      clear HQ HL hlt
      go_wp2_with fail
      refine (take_calls _ HD.out.rdr 1000 (by omega)).mono ?_
      rintro e w8 ⟨rfl, q1, q2⟩
      have hb6 := (takeR_len s 1000).2
      have hne : ¬ E0 = w.heap.size + 1 := by omega
      have HD8 := Lib.hid (HD.out.step q1 q2)
      have HE8 := Lib.hid ((q2.block E0 (lt_of_heap HEr.out) hne).trans HEr.out)
      have HO8 := Lib.hid (HO.out.keep (w' := w8) fun q hq => q2.block q (HO.out.lt q hq) (by have := HOB.out q hq; omega))
      clear q1 q2
      obtain ⟨⟨s6, na⟩, hs6⟩ : ∃ q, takeR s 1000 = q := ⟨_, rfl⟩
      rw [hs6] at hb6 HD8 ⊢
      have HS6 := Lib.hid hs6
      clear hs6 HD HEr HO
      simp only at hb6 HD8
      go_wp2_with fail
      go_loopw [36, 6] (fun i _ wr => ∃ (k2 k : Nat) (ms : List Meta) (av : Value) (s : RS), i = .int .i64 k2 ∧ k2 + k = na ∧ Hid (ms.length = k2) ∧ Hid (DI w wr s) ∧ Hid (wr.heap[E0]? = some (.cells #[av, dv, .int .i64 n1, .int .i64 n2, .int .u64 n3] 46 (0, 0))) ∧ Hid (Own wr 3 1 dv j (intV ds)) ∧ Hid (Own wr 42 5 av k2 (metaV ms)) ∧ Hid (∀ q, av.ownBlock = some q → E0 < q) ∧
        Hid (addsR na s6 = ((addsR k s).1, ms ++ (addsR k s).2))) (fun i _ _ => na - (intOf i).toNat)
      case atStart => exact ⟨0, na, [], .slice none 0 0, s6, rfl, Nat.zero_add _, Lib.hid rfl, HD8, HE8, HO8, Lib.hid (Own.nil _ _ _), Lib.hid (fun k hk => by cases hk), Lib.hid (by simp)⟩
      case round =>
        obtain ⟨k2, k, ms, av, s9, rfl, hjk, HL, HD, HEr, HO, HOM, HMB, HQ⟩ := hrel
        by_cases hlt : k2 < na
        · obtain ⟨k, rfl⟩ : ∃ m, k = m + 1 := ⟨k - 1, by omega⟩
          obtain ⟨⟨sA, xA⟩, hA⟩ : ∃ q, takeR s9 1073741824 = q := ⟨_, rfl⟩
          obtain ⟨⟨sB, xB⟩, hB⟩ : ∃ q, takeR sA 5 = q := ⟨_, rfl⟩
          obtain ⟨⟨sC, xC⟩, hC⟩ : ∃ q, takeR sB 67108864 = q := ⟨_, rfl⟩
          obtain ⟨⟨sD, xD⟩, hD⟩ : ∃ q, textR sC = q := ⟨_, rfl⟩
          obtain ⟨⟨sE, xE⟩, hE⟩ : ∃ q, textR sD = q := ⟨_, rfl⟩
          have hM : metaR s9 = (sE, ⟨xA, xB, ⟨xD.toArray⟩, ⟨xE.toArray⟩, xC⟩) := by unfold metaR; simp only [hA, hB, hC, hD, hE]
          have HS := Lib.hid (show addsR (k + 1) s9 = ((addsR k sE).1, ⟨xA, xB, ⟨xD.toArray⟩, ⟨xE.toArray⟩, xC⟩ :: (addsR k sE).2) by
            have : addsR (k + 1) s9 = ((addsR k (metaR s9).1).1, (metaR s9).2 :: (addsR k (metaR s9).1).2) := rfl
            rw [this, hM])
          have bA := (takeR_len s9 1073741824).2
          have bB := (takeR_len sA 5).2
          have bC := (takeR_len sB 67108864).2
          rw [hA] at bA
          rw [hB] at bB
          rw [hC] at bC
          simp only at bA bB bC
          have HA := Lib.hid hA
          have HB := Lib.hid hB
          have HC := Lib.hid hC
          have HDD := Lib.hid hD
          have HEE := Lib.hid hE
          clear hA hB hC hD hE hM
          go_wp2_with fail
          refine (take_calls _ HD.out.rdr 1073741824 (by omega)).mono ?_
          rintro e wA ⟨rfl, q1, q2⟩
          rw [HA.out] at q1 ⊢
          have KA := Lib.hid q2
          have DA := Lib.hid (HD.out.step q1 q2)
          clear q1 q2
          go_wp2_with fail
          refine (take_calls _ DA.out.rdr 5 (by omega)).mono ?_
          rintro e wB ⟨rfl, q1, q2⟩
          rw [HB.out] at q1 ⊢
          have KB := Lib.hid (KA.out.trans q2)
          have DB := Lib.hid (DA.out.step q1 q2)
          clear q1 q2
          go_wp2_with fail
          refine (take_calls _ DB.out.rdr 67108864 (by omega)).mono ?_
          rintro e wC ⟨rfl, q1, q2⟩
          rw [HC.out] at q1 ⊢
          have KC := Lib.hid (KB.out.trans q2)
          have DC := Lib.hid (DB.out.step q1 q2)
          have KF0 := KC
          have hCE : E0 < wC.heap.size := Nat.lt_of_lt_of_le (lt_of_heap HEr.out) KC.out.size
          clear q1 q2
          have M1 := Lib.hid (heap_alloc_new wC (.cells #[.int .i64 xA, .int .i64 xB, .string ⟨#[]⟩, .string ⟨#[]⟩, .int .i64 xC] 42))
          have KD := Lib.hid (KC.out.trans (Keep.alloc _ wC (.cells #[.int .i64 xA, .int .i64 xB, .string ⟨#[]⟩, .string ⟨#[]⟩, .int .i64 xC] 42)))
          have DD := Lib.hid (DC.out.keep (Keep.alloc (fun _ => False) wC (.cells #[.int .i64 xA, .int .i64 xB, .string ⟨#[]⟩, .string ⟨#[]⟩, .int .i64 xC] 42)) (fun _ h => h.elim))
          go_wp2_with fail
          refine (text_calls _ DD.out.rdr).mono ?_
          rintro e wD ⟨rfl, q1, q2⟩
          rw [HDD.out] at q1 ⊢
          have M2 := Lib.hid ((q2.block _ (lt_of_heap M1.out) (by omega)).trans M1.out)
          have KE := Lib.hid (KD.out.trans q2)
          have DE := Lib.hid (DD.out.step q1 q2)
          clear q1 q2
          go_wp2_with fail
          refine (text_calls _ DE.out.rdr).mono ?_
          rintro e wE ⟨rfl, q1, q2⟩
          rw [HEE.out] at q1 ⊢
          have M3 := Lib.hid ((q2.block _ (lt_of_heap M2.out) (by omega)).trans M2.out)
          have KF := Lib.hid (KE.out.trans q2)
          have DF := Lib.hid (DE.out.step q1 q2)
          clear q1 q2 M1 M2 KA KB KC KD KE DA DB DC DD DE
          have hCM : wr.heap.size ≤ wC.heap.size := KF0.out.size
          generalize hM0 : wC.heap.size = M0 at *
          clear hM0 KF0
          have c2 := cell_of_heap M3.out 2
          have c3 := cell_of_heap M3.out 3
          have f2 := free_of_heap M3.out 2
          have f3 := free_of_heap M3.out 3
          have hEE := (KF.out.block _ (lt_of_heap HEr.out) hne).trans HEr.out
          have K4 := (Keep.refl (· = M0) wE).set _ M0 2 rfl (.string ⟨xD.toArray⟩)
          have K5 := K4.set _ M0 3 rfl (.string ⟨xE.toArray⟩)
          have M4 := heap_setCell_same (heap_setCell_same M3.out 2 (.string ⟨xD.toArray⟩)) 3 (.string ⟨xE.toArray⟩)
          have f3' := free_of_heap (heap_setCell_same M3.out 2 (.string ⟨xD.toArray⟩)) 3
          have c3' := cell_of_heap (heap_setCell_same M3.out 2 (.string ⟨xD.toArray⟩)) 3
          obtain ⟨wF, hwF⟩ : ∃ x, x = (wE.setCell ⟨M0, 2, none⟩ (.string ⟨xD.toArray⟩)).setCell ⟨M0, 3, none⟩ (.string ⟨xE.toArray⟩) := ⟨_, rfl⟩
          have HWF := Lib.hid hwF
          rw [← hwF] at M4 K5
          have E4 := Lib.hid ((K5.block _ (lt_of_heap hEE) (by omega)).trans hEE)
          have M5 := Lib.hid (show wF.heap[M0]? = some (.cells #[.int .i64 xA, .int .i64 xB, .string ⟨xD.toArray⟩, .string ⟨xE.toArray⟩, .int .i64 xC] 42 (0, 0)) from M4)
          have DG := Lib.hid (DF.out.keep K5 fun q hq => by omega)
          have KG := Lib.hid (KF.out.step K5 fun q hq => .inr (by subst hq; exact hCM))
          have cM0 := cell_of_heap M5.out 0
          have cM1 := cell_of_heap M5.out 1
          have cM2 := cell_of_heap M5.out 2
          have cM3 := cell_of_heap M5.out 3
          have cM4 := cell_of_heap M5.out 4
          have cE0 := cell_of_heap E4.out 0
          clear hEE K4 K5 M4 hwF
          have OG := Lib.hid (HO.out.keep (w' := wF) fun q hq => KG.out.block q (HO.out.lt q hq) (by have := HOB.out q hq; omega))
          have OM := Lib.hid (HOM.out.keep (w' := wF) fun q hq => KG.out.block q (HOM.out.lt q hq) (by have := HMB.out q hq; omega))
          have hkb : k2 + 1 ≤ 4294967296 := by omega
          clear HA HB HC HDD HEE M3 KF DF HD HEr HO HOM
          go_upto_region 11 with fail
          rw [← HWF.out]
          go_wp2_with (at_builtin; go_must (refine app_elem wF rfl _ _ 34 42 rfl 5 56 (.agg #[.int .i64 0, .int .i64 0, .string ⟨#[]⟩, .string ⟨#[]⟩, .int .i64 0]) tyMetas info_meta rfl (by decide) (v := av) rfl OM.out #[.int .i64 xA, .int .i64 xB, .string ⟨xD.toArray⟩, .string ⟨xE.toArray⟩, .int .i64 xC] rfl (by simp [Value.oneCell']) rfl hkb (by omega) ?_); intro A9 n9 c9 w7 hn9 HAV; have HE7 := Lib.hid ((HAV.out.2.1.block E0 (lt_of_heap E4.out) (fun h => by have := HMB.out _ h; omega)).trans E4.out); have c70 := cell_of_heap HE7.out 0; have f70 := free_of_heap HE7.out 0)
          have HO7 := Lib.hid (OG.out.keep (w' := w7) fun q hq => HAV.out.2.1.block q (OG.out.lt q hq) (fun h => by
            obtain ⟨c1, h1⟩ := OG.out.block hq
            obtain ⟨c2, h2⟩ := OM.out.block h
            rw [h1] at h2; simp at h2))
          have HOB7 := Lib.hid (show ∀ q, (Value.slice A9 n9 c9).ownBlock = some q → E0 < q from fun q hq => (HAV.out.2.2 q hq).elim (HMB.out q) fun h => Nat.lt_of_lt_of_le (lt_of_heap E4.out) h)
          have HD7 := Lib.hid (DG.out.keep HAV.out.2.1 fun q hq => by have := HMB.out q hq; omega)
          have HK8 := Lib.hid ((Keep.refl (· = E0) w7).set _ E0 0 rfl (.slice A9 n9 c9))
          have HD8 := Lib.hid (HD7.out.keep HK8.out fun q hq => by omega)
          have HE8 := Lib.hid (heap_setCell_same HE7.out 0 (.slice A9 n9 c9))
          have HO8 := Lib.hid (HO7.out.keep (w' := w7.setCell ⟨E0, 0, none⟩ (.slice A9 n9 c9)) fun q hq => HK8.out.block q (HO7.out.lt q hq) (by have := HOB.out q hq; omega))
          have HM8 := Lib.hid (HAV.out.1.keep (w' := w7.setCell ⟨E0, 0, none⟩ (.slice A9 n9 c9)) fun q hq => HK8.out.block q (HAV.out.1.lt q hq) (by have := HOB7.out q hq; omega))
          clear HAV HE7 HO7 HD7 OG OM DG KG E4 M5 cM0 cM1 cM2 cM3 cM4 cE0
          go_wp2_with fail
          go_roundw
          case rel => exact ⟨k2 + 1, k, ms ++ [⟨xA, xB, ⟨xD.toArray⟩, ⟨xE.toArray⟩, xC⟩], _, sE, by rw [Int.natCast_add]; rfl, by omega, Lib.hid (by simp [HL.out]), HD8, HE8, HO8, Lib.hid (by simpa [metaV, Meta.cells] using HM8.out), HOB7, Lib.hid (by rw [HQ.out, HS.out]; simp)⟩
          case measure => simp [intOf]; omega
        · obtain rfl : k = 0 := by omega
          obtain rfl : k2 = na := by omega
          have HF := Lib.hid (show decodeR b = if s9.bad = true ∨ 0 < s9.l.length then (⟨[], [], 0, 0, 0⟩, 2) else (⟨ms, ds, n1, n2, n3⟩, 0) by
            have hq : addsR k2 s6 = (s9, ms) := by rw [HQ.out]; simp [addsR]
            unfold decodeR
            simp only [HH3.out, HS4.out, HQ'.out, HS6.out, hq])
          obtain ⟨x, r1, r2, _, r4⟩ := HD.out.rdr
          have r0 := HD.out.res
          have g0 := cell_of_heap r1 0
          have g1 := cell_of_heap r1 1
          have d0 := cell_of_heap r0 0
          have d1 := cell_of_heap r0 1
          have d2 := cell_of_heap r0 2
          have d3 := cell_of_heap r0 3
          have d4 := cell_of_heap r0 4
          have e0 := free_of_heap r0 0
          have e1 := free_of_heap r0 1
          have e2 := free_of_heap r0 2
          have e3 := free_of_heap r0 3
          have e4 := free_of_heap r0 4
          have i0 := cell_of_heap HEr.out 0
          have i1 := cell_of_heap HEr.out 1
          have i2 := cell_of_heap HEr.out 2
          have i3 := cell_of_heap HEr.out 3
          have i4 := cell_of_heap HEr.out 4
          obtain ⟨_, A', c', rfl, _⟩ := id r2
          clear HQ HQ' HH3 HS4 HS6 r1 r2
          obtain ⟨A5, c5, rfl, _⟩ := HOM.out.rds.2
          obtain ⟨A6, c6, rfl, _⟩ := HO.out.rds.2
          have HB := Lib.hid HD.out.below
          cases hbd : s9.bad
          · rw [hbd] at g1
            by_cases hl9 : 0 < s9.l.length
            · have HF' := Lib.hid (show decodeR b = (⟨[], [], 0, 0, 0⟩, 2) by rw [HF.out, if_pos (.inr hl9)])
              have RR := heap_setCell_same (heap_setCell_same (heap_setCell_same (heap_setCell_same (heap_setCell_same r0 0 (.slice none 0 0)) 1 (.slice none 0 0)) 2 (.int .i64 0)) 3 (.int .i64 0)) 4 (.int .u64 0)
              go_wp2_with fail
              (try simp only [Exit.inBlock, Exit.then])
              refine bodyPost_ret (results_row_tmp (by rfl) _ _ w.heap.size 46 _ (0, 0) (by rfl) RR tyEdit szEdit) (by rfl) ?_
              rw [HF'.out]
              exact ⟨_, _, rfl, Own.nil _ _ _, Own.nil _ _ _, HB.out.trans (((((((Keep.refl (· = w.heap.size) wr).set _ _ _ rfl _).set _ _ _ rfl _).set _ _ _ rfl _).set _ _ _ rfl _).set _ _ _ rfl _).below (fun k e => by omega) HB.out.size), (fun k hk => by cases hk), (fun k hk => by cases hk)⟩
            · have HF' := Lib.hid (show decodeR b = (⟨ms, ds, n1, n2, n3⟩, 0) by rw [HF.out, if_neg (by simp [hbd, hl9])])
              have RR := heap_setCell_same (heap_setCell_same (heap_setCell_same (heap_setCell_same (heap_setCell_same r0 0 (.slice A5 k2 c5)) 1 (.slice A6 j c6)) 2 (.int .i64 n1)) 3 (.int .i64 n2)) 4 (.int .u64 n3)
              go_wp2_with fail
              (try simp only [Exit.inBlock, Exit.then])
              refine bodyPost_ret (results_row_tmp (by rfl) _ _ w.heap.size 46 _ (0, 0) (by rfl) RR tyEdit szEdit) (by rfl) ?_
              rw [HF'.out]
              have K := ((((((Keep.refl (· = w.heap.size) wr).set _ _ 0 rfl (.slice A5 k2 c5)).set _ _ 1 rfl (.slice A6 j c6)).set _ _ 2 rfl (.int .i64 n1)).set _ _ 3 rfl (.int .i64 n2)).set _ _ 4 rfl (.int .u64 n3))
              exact ⟨_, _, rfl, (by simp only [HL.out]; exact HOM.out.keep fun q hq => K.block q (HOM.out.lt q hq) (by have := HMB.out q hq; omega)), (by simp only [HLds.out]; exact HO.out.keep fun q hq => K.block q (HO.out.lt q hq) (by have := HOB.out q hq; omega)), HB.out.trans (K.below (fun k e => by omega) HB.out.size), (fun k hk => by have := HMB.out k hk; omega), (fun k hk => by have := HOB.out k hk; omega)⟩
          · rw [hbd] at g1
            have HF' := Lib.hid (show decodeR b = (⟨[], [], 0, 0, 0⟩, 2) by rw [HF.out, if_pos (.inl hbd)])
            have RR := heap_setCell_same (heap_setCell_same (heap_setCell_same (heap_setCell_same (heap_setCell_same r0 0 (.slice none 0 0)) 1 (.slice none 0 0)) 2 (.int .i64 0)) 3 (.int .i64 0)) 4 (.int .u64 0)
            go_wp2_with fail
            (try simp only [Exit.inBlock, Exit.then])
            refine bodyPost_ret (results_row_tmp (by rfl) _ _ w.heap.size 46 _ (0, 0) (by rfl) RR tyEdit szEdit) (by rfl) ?_
            rw [HF'.out]
            exact ⟨_, _, rfl, Own.nil _ _ _, Own.nil _ _ _, HB.out.trans (((((((Keep.refl (· = w.heap.size) wr).set _ _ _ rfl _).set _ _ _ rfl _).set _ _ _ rfl _).set _ _ _ rfl _).set _ _ _ rfl _).below (fun k e => by omega) HB.out.size), (fun k hk => by cases hk), (fun k hk => by cases hk)⟩

end Go.Proofs.YtebkmpgmcldeoaaDoor
