/- EditBad, whatever bytes stand on the disk, answers true: the row, and the card that ties its listed variables to the program's text. No condition. -/
import Derived.Test.YtebkmpgmcldeoaaDoorRows
import Derived.Test.YtebkmpgmcldeoaaDoorTc
import Derived.ProofKit
import Derived.LaidMore
import Derived.LaidSub
import Derived.OpenShut
import Derived.Stop.Joined
import Derived.Carry
import Derived.Lib.LaidTab
import Derived.Below
import Derived.ChangeSame
import Derived.Test.YtebkmpgmcldeoaaDoorCards
import Derived.Test.YtebkmpgmcldeoaaDoorTie
import Derived.SevenTiedAt
/- EditBad answers true, whatever the input: the row. -/
namespace Go.Proofs.YtebkmpgmcldeoaaDoor
open Go Go.ChangeShapes Go.WideShapes Go.ChangeAt Go.WideMaps Go.WideElems Go.RowKit
set_option linter.unusedVariables false

theorem own : ownKnob Tryd.prog.godebug = none := by kernel_rfl
theorem laidOut : laidOutB Tryd.prog = true := by kernel_rfl
theorem gCrc : Tryd.prog.globalNamed "tailrace/crc.halves" = some 0 := by kernel_rfl
theorem tCrc : (Tryd.prog.globals[0]?).map (·.type) = some 125 := by kernel_rfl
theorem tPow : (Tryd.prog.globals[1]?).map (·.type) = some 136 := by kernel_rfl
theorem uCrc : Tryd.prog.underlying 125 = some (.array 16 86) := by kernel_rfl
theorem uPow : Tryd.prog.underlying 136 = some (.array 20 35) := by kernel_rfl
theorem uU32 : Tryd.prog.underlying 86 = some (.int .u32) := by kernel_rfl
theorem uU64 : Tryd.prog.underlying 35 = some (.int .u64) := by kernel_rfl
theorem cellU8 : Tryd.prog.cellsOf 5 = 1 := by kernel_rfl

set_option maxRecDepth 100000 in
theorem globs_of_laid {W : World} (h : laidMetH Tryd.prog Rows.editBadRow.laid W) : Globs W := by
  rw [MakeChecks.laidMetH_plain _ _ _ (by kernel_rfl)] at h
  have h1 := h.filter (fun x => x.1 == "tailrace/crc.halves")
  have h2 := h.filter (fun x => x.1 == "internal/strconv.uint64pow10")
  have e1 : Rows.editBadRow.laid.filter (fun x => x.1 == "tailrace/crc.halves") = [("tailrace/crc.halves", Lib.tabData .u32 (halvesL.map fun n : Nat => (n : Int)))] := by kernel_rfl
  have e2 : Rows.editBadRow.laid.filter (fun x => x.1 == "internal/strconv.uint64pow10") = [("internal/strconv.uint64pow10", Lib.tabData .u64 Lib.pow10Tab)] := by kernel_rfl
  rw [e1] at h1
  rw [e2] at h2
  have t1 := Lib.tabIs_of_head gCrc tCrc uCrc uU32 (by kernel_rfl) (by kernel_rfl) h1
  have t2 := Lib.tabIs_of_head gPow tPow uPow uU64 (by kernel_rfl) (by kernel_rfl) h2
  refine ⟨?_, t2⟩
  unfold Lib.TabIs World.var? at t1
  rw [gCrc] at t1
  simp only [Option.bind_some] at t1
  cases hh : W.heap[0]? with
  | none => rw [hh] at t1; cases t1
  | some o =>
    rw [hh] at t1
    cases o with
    | cells cs T fr =>
      simp only [Option.some.injEq] at t1
      refine ⟨T, fr, ?_⟩
      rw [hh, t1]
      simp [List.map_map, Function.comp_def]
    | _ => cases t1

set_option maxRecDepth 100000 in
theorem open_bytes {H : Type} {enc : TypeId × Value → H} {W : World} {base : Nat} {v : Value} {d : DataW H} {p : List MemPlace} (hok : Value.okWide Tryd.prog W .any base 22 v)
    (h : DataW.Trod enc Tryd.prog W 0 (fun _ => true) true 22 v d p) : ∃ l : List UInt8, RdB W v l ∧ (∀ k, v.ownBlock = some k → k < W.heap.size) ∧ l.length ≤ maxLen := by
  obtain ⟨a, len, cap, rfl⟩ := okWide_slice tyBytes hok
  obtain ⟨fuel, hf0⟩ := h
  have hf : DataW.trod enc Tryd.prog W 0 (fun _ => true) true fuel 22 [.slice a len cap] = some (d, p) := hf0
  rcases open_ints tyBytes tyU8 cellU8 hf with ⟨hcs, _⟩ | ⟨a', len', cap', zs, hcs, _, hl, hm, hz, _, hcell, hwf⟩
  · simp at hcs
    obtain ⟨rfl, rfl, rfl⟩ := hcs
    exact ⟨[], (Own.nil W 5 1).rds, (fun k hk => by cases hk), Nat.zero_le _⟩
  · simp at hcs
    obtain ⟨rfl, rfl, rfl⟩ := hcs
    simp only [if_true] at hz
    have hhas : a'.spot = none ∧ ∃ row cells, W.shape? a'.block = some (row, cells) := by
      simp only [Value.okWide, tyBytes, Cell.okWide, Cell.ok] at hok
      obtain ⟨_, _, _, h1, row, cells, h2, _⟩ := hok
      exact ⟨h1, row, cells, h2⟩
    have hll : ((zs.take len).map fun z => UInt8.ofNat z.toNat).length = len := by simp; omega
    refine ⟨(zs.take len).map fun z => UInt8.ofNat z.toNat, ?_, ?_, by rw [hll]; omega⟩
    · unfold RdB
      rw [hll]
      refine ⟨by rw [byV_length, hll]; omega, some a', cap, rfl, hl, (fun e => by cases e), fun b hb => ?_⟩
      injection hb with hb
      subst hb
      refine ⟨hhas.1, fun j u hu => ?_⟩
      rw [byV_get] at hu
      simp only [List.getElem?_map, Option.map_map, Option.map_eq_some_iff] at hu
      obtain ⟨z, hz1, rfl⟩ := hu
      rw [List.getElem?_take] at hz1
      split at hz1
      · rename_i hj
        have hw := hwf z (List.mem_of_getElem? hz1)
        have hzb : 0 ≤ z ∧ z < 256 := by
          have e1 : IntKind.u8.min = 0 := by kernel_rfl
          have e2 : IntKind.u8.max = 255 := by kernel_rfl
          unfold Lit.wf at hw
          simp only [decide_eq_true_eq, Bool.and_eq_true, e1, e2] at hw
          omega
        rw [hcell j (by omega)]
        have : zs.getD j 0 = z := by simp [List.getD, hz1]
        rw [this]
        simp only [Function.comp]
        congr 2
        simp
        omega
      · cases hz1
    · intro k hk
      have hk' : a'.block = k := Option.some.inj hk
      subst hk'
      obtain ⟨row, cells, hs⟩ := hhas.2
      rcases Nat.lt_or_ge a'.block W.heap.size with h1 | h1
      · exact h1
      · unfold World.shape? at hs
        rw [Array.getElem?_eq_none h1] at hs
        cases hs

section
variable {H : Type} {enc : TypeId × Value → H} {P : Program}
theorem post_of_below {f : Func} {s : ChangeSpec} {apart fresh handsOn again : Bool} {W W' : World} {args : Array Value} {v : Value} {ds gs : List (DataW H)} {before pa pv : List MemPlace}
    (hW : DataW.Whole enc P f.params.toList s.vars apart W args.toList ds gs before)
    (hres : ∀ (b : Nat) (sp : Nat → Bool) (hd : Bool), DataW.TrodAll enc P W' b sp hd f.resultTypes.toList (v.resultList f.resultTypes.size) (s.fn H (ds ++ gs)).results [])
    (hargs : ∀ sp : Nat → Bool, (∀ p ∈ before, sp p.block = true) → DataW.TrodAll enc P W' 0 sp true f.params.toList args.toList (s.fn H (ds ++ gs)).args pa)
    (hvars : ∀ sp : Nat → Bool, (∀ p ∈ before, sp p.block = true) → DataW.TrodVars enc P W' sp s.vars (s.fn H (ds ++ gs)).vars pv)
    (hps : before = pa ++ pv) (hb : RowKit.Below W.heap.size W W')
    (hok : ∀ (j : Nat) (t : TypeId) (r : Value), f.resultTypes[j]? = some t → (v.resultList f.resultTypes.size)[j]? = some r → Value.okWide P W' .any 0 t r) :
    s.post enc P f apart fresh handsOn again W args v W' := by
  have hlt : ∀ p ∈ before, p.block < W.heap.size := fun p hp => hW.lt p hp
  have hold : ∀ p ∈ before, (fun b => decide (b < W.heap.size)) p.block = true := fun p hp => by simpa using hlt p hp
  refine ⟨ds, gs, before, [], pa, pv, hW, hres _ _ _, hargs _ hold, hvars _ hold, World.keptBut_mono (fun p hp => ⟨hp, ?_⟩) (hb.frame (· ∈ before)), fun _ => ?_⟩
  · rw [hps, List.mem_append] at hp
    exact Or.inr hp
  · obtain ⟨_, _, _, _, _, hz, hn⟩ := hW
    refine ⟨hok, _, _, ([] ++ pa) ++ pv, ⟨[] ++ pa, pv, trodAll_append (hargs _ (fun _ _ => rfl)) (hres _ _ _), hvars _ (fun _ _ => rfl), rfl, ?_, ?_⟩, ?_⟩
    · intro b off hp
      have hin : MemPlace.cell b off ∈ before := by rw [hps]; simpa using hp
      rw [hb.frozen (hlt _ hin)]
      exact hz b off hin
    · intro ha
      have := hn ha
      rw [hps] at this
      simpa using this
    · intro p hp _
      rw [hps]
      simpa using hp
end

end Go.Proofs.YtebkmpgmcldeoaaDoor

namespace Go.Proofs.YtebkmpgmcldeoaaDoor
open Go Go.ChangeShapes Go.WideShapes Go.ChangeAt Go.WideMaps Go.WideElems Go.RowKit
set_option linter.unusedVariables false

theorem door_met (os : Os) (args : Array Value) : laidMetH Tryd.prog Rows.editBadRow.laid ((World.doorLaid Tryd.prog 400 os).forCall (fun _ _ => 0) ⟨#[], args, []⟩).memory :=
  laidMetH_of_parts3 (fuel := 8) (laidMet_of_run' 8 (by kernel_rfl) (by kernel_rfl)) (by kernel_rfl) (by kernel_rfl)

set_option maxRecDepth 100000 in
theorem lifted (os : Os) (started : os.Started) (H : Type) (enc : TypeId × Value → H) :
    ReturnsInHanded {} Tryd.checked os 3 .any (fun w args => (Rows.editBadSpec.pre enc Tryd.prog Tryd.f3 [] false w args ∧ laidMetH Tryd.prog Rows.editBadRow.laid w) ∧ sizedMet enc Tryd.prog Tryd.f3 (OpenSpec.ofChange Rows.editBadSpec) false w args)
      (Rows.editBadSpec.post enc Tryd.prog Tryd.f3 false true false false) := by
  refine returnsInHanded_of_change_and (C := Tryd.checked) (X := fun w _ => laidMetH Tryd.prog Rows.editBadRow.laid w) (fun _ _ _ hh h => h.of_heap hh) own started (by kernel_rfl) Tryd.func3
    (ChangeSpec.witness_shaped (enc := enc) (C := Tryd.checked) (os := os) (X := fun w _ => laidMetH Tryd.prog Rows.editBadRow.laid w) false (World.doorLaid Tryd.prog 400 os) #[.slice none 0 0, .slice none 0 0, .int .i64 0, .int .i64 0] 8 rfl (World.shaped_of_RefB (by kernel_rfl) (by kernel_rfl)) (by kernel_rfl) (by kernel_rfl) (by kernel_rfl) (door_met os _)) ?_
  intro W base args ds gs before hval0 hW _ _ hL _
  have hval : ∀ (j : Nat) t v, Tryd.f3.params[j]? = some t → args[j]? = some v → Value.okWide Tryd.prog W .any base t v := hval0
  have hW' := hW
  obtain ⟨p, q, hA0, hV, rfl, hfz, hnd⟩ := hW
  have hA : DataW.TrodAll enc Tryd.prog W 0 (fun _ => true) true Tryd.f3.params.toList args.toList ds p := hA0
  rw [Tryd.params3] at hA hval
  obtain ⟨v0, v1, v2, v3, d0, d1, d2, d3, p0, p1, p2, p3, rfl, rfl, rfl, h0, h1, h2, h3⟩ := trodAll_four hA
  obtain ⟨rfl, rfl⟩ := trodVars_none hV
  obtain ⟨l0, r0, x0, m0⟩ := open_bytes (hval 0 22 v0 rfl rfl) h0
  obtain ⟨l1, r1, x1, m1⟩ := open_bytes (hval 1 22 v1 rfl rfl) h1
  obtain ⟨n, rfl⟩ := okWide_int (k := .i64) (show Tryd.prog.underlying 3 = some (.int .i64) by kernel_rfl) (hval 2 3 v2 rfl rfl)
  obtain ⟨room, rfl⟩ := okWide_int (k := .i64) (show Tryd.prog.underlying 3 = some (.int .i64) by kernel_rfl) (hval 3 3 v3 rfl rfl)
  have hG := globs_of_laid hL
  clear hA0 hval0
  have hbefore : ∀ x ∈ p0 ++ p1 ++ p2 ++ p3, x.block < W.heap.size := fun x hx => by
    have := hW'.lt x (by simpa using hx)
    simpa using this
  unfold maxLen at m0 m1
  refine (editBad_walk W hG r0 r1 x0 x1 (by omega) (by omega) n room).mono fun e W' ⟨he, hb⟩ => ?_
  subst he
  refine ⟨_, rfl, ?_⟩
  have i0 : ∀ x ∈ p0, x.block < W.heap.size := fun x hx => hbefore x (by simp [hx])
  have i1 : ∀ x ∈ p1, x.block < W.heap.size := fun x hx => hbefore x (by simp [hx])
  have i2 : ∀ x ∈ p2, x.block < W.heap.size := fun x hx => hbefore x (by simp [hx])
  have i3 : ∀ x ∈ p3, x.block < W.heap.size := fun x hx => hbefore x (by simp [hx])
  exact post_of_below (pa := p0 ++ (p1 ++ (p2 ++ p3))) (pv := []) hW'
    (fun _ _ _ => trodAll_mk1 (shut_bool Tryd.underlying4 _))
    (fun sp hs => trodAll_mk4
      (Trod_stays laidOut (by kernel_rfl) (of_decide_eq_true (by kernel_rfl)) h0 (fun x hx => hb.same (i0 x hx)) (fun x hx => hs x (by simp [hx])))
      (Trod_stays laidOut (by kernel_rfl) (of_decide_eq_true (by kernel_rfl)) h1 (fun x hx => hb.same (i1 x hx)) (fun x hx => hs x (by simp [hx])))
      (Trod_stays laidOut (by kernel_rfl) (of_decide_eq_true (by kernel_rfl)) h2 (fun x hx => hb.same (i2 x hx)) (fun x hx => hs x (by simp [hx])))
      (Trod_stays laidOut (by kernel_rfl) (of_decide_eq_true (by kernel_rfl)) h3 (fun x hx => hb.same (i3 x hx)) (fun x hx => hs x (by simp [hx]))))
    (fun _ _ => rfl) (by simp) hb (ok_one (by kernel_rfl) rfl (okWide_bool_mk Tryd.underlying4 _))

theorem editBad_holds : Rows.EditBadSaid :=
  OpenClaim.holds_of_wide 3 Tryd.f3 rfl rfl rfl rfl rfl rfl rfl ⟨rfl, rfl, rfl, rfl, rfl⟩ rfl rfl rfl rfl rfl (by kernel_rfl) Tryd.func3 (by kernel_rfl)
    (of_decide_eq_true (by kernel_rfl)) (by unfold Func.isWrapper; first | (rw [if_pos (by decide +kernel)]; kernel_rfl) | (rw [if_neg (by decide +kernel)]; exact ⟨rfl, rfl⟩))
    (fun os started H enc _ => lifted os started H enc)

theorem editBad_card_holds : Rows.EditBadCardSaid :=
  Claim7.holds_tied_plain_at .later [] [.data, .data, .data, .data] true (true, "1da7215beec4c2333873b51c02f49cc01e73156f074a06370d2816e7de93991a") false
    editBad_holds (fun _ h => by cases h) (by kernel_rfl) (fun _ h => by cases h) editBad_row_tie rfl ⟨rfl, rfl⟩ (by kernel_rfl) rfl
    (fun f fn hf hfn => by
      obtain rfl : f = 3 := Option.some.inj ((show Tryd.prog.funcNamed "tailrace/tailracelaw15.EditBad" = some 3 by kernel_rfl).symm.trans hf) |>.symm
      obtain rfl : fn = Tryd.f3 := (Option.some.inj (Tryd.func3.symm.trans hfn)).symm
      exact ⟨by kernel_rfl, fun j t ht => by
        rw [Tryd.params3] at ht
        have hm : t ∈ [22, 3] := by
          have := Array.mem_of_getElem? ht
          simp at this
          rcases this with h | h <;> simp [h]
        have hall : ([22, 3].all fun u => !Tryd.prog.wantsStandIn u) = true := by kernel_rfl
        exact (show Tryd.prog.wantsStandIn t = false by simpa using List.all_eq_true.1 hall t hm)⟩)
    (by kernel_rfl)
#print axioms editBad_card_holds

end Go.Proofs.YtebkmpgmcldeoaaDoor
