/- Man.fresh: a list is made anew. -/
import Derived.Test.YtebkmpgmcldeoaaDoorSt
import Derived.BigRegion
import Derived.Deep.LoopGhost
import Derived.Deep.Cut
import Derived.Deep.CutRange
import Derived.Deep.DeepCutAuto
namespace Go.Proofs.YtebkmpgmcldeoaaDoor
open Go Go.Proofs Go.RowKit Go.Sort
set_option linter.unusedVariables false

/-- what a call of fresh leaves -/
structure FreshOut (w : World) (d mb : Nat) (F : Nat → Prop) (n : Nat) (fv0 fv : Value) (v0 v : VersP) (op : Bool) (r : PD × Int) (e : Ending) (w' : World) : Prop where
  ret : e = .returned (.int .i64 r.2)
  rest : ∃ G, DK w' d G r.1 ∧ Keep (fun k => F k ∨ k = mb) w w' ∧ (∀ k, k < w.heap.size → ¬ F k → ¬ G k) ∧
    w'.heap[mb]? = some (.cells (if r.2 = 0 then manCells d ((n + 1 : Nat) : Int) fv v true else manCells d n fv0 v0 op) 64 (0, 0))

theorem FreshOut.of {w w' : World} {d mb : Nat} {F G : Nat → Prop} {n : Nat} {fv0 fv : Value} {v0 v : VersP} {op : Bool} {r : PD × Int} (hM : w.heap[mb]? = some (.cells (manCells d n fv0 v0 op) 64 (0, 0))) (hmF : ¬ F mb)
    (h : FI w w' d F G r.1) (hr : r.2 ≠ 0) : FreshOut w d mb F n fv0 fv v0 v op r (.returned (.int .i64 r.2)) w' :=
  ⟨rfl, G, h.dk, h.keep.mono fun k hk => .inl hk, h.apart, by rw [if_neg hr]; exact (h.block (lt_of_heap hM) hmF).trans hM⟩

set_option maxHeartbeats 4000000 in
set_option maxRecDepth 100000 in
theorem fresh_calls (w : World) (hG : Globs w) {d mb n : Nat} {F : Nat → Prop} {p : PD} {fv0 fv : Value} {v0 v : VersP} {op : Bool} (hD : DK w d F p) (hF0 : ¬ F 0) (hF1 : ¬ F 1) (hmF : ¬ F mb)
    (hM : w.heap[mb]? = some (.cells (manCells d n fv0 v0 op) 64 (0, 0))) (hr : Rds w 5 fv v.files.length (metaV v.files)) (hv : ∀ k, fv.ownBlock = some k → k < w.heap.size) (hl : v.files.length ≤ 1000) (he : ∀ m ∈ v.files, encM m)
    (hlg : 0 ≤ v.log ∧ v.log ≤ 1152921504606846976) (hnx : 0 ≤ v.next ∧ v.next ≤ 1152921504606846976) (hsq : v.seq ≤ 1152921504606846976) (hn : n ≤ 1073741824)
    (hren : ∀ (W : World) (G : Nat → Prop), DiskIs W d G (freshD p n v) → Calls Tryd.prog 56 #[.pointer (some ⟨d, 0, none⟩), .string soonS, .string nowS] W fun e W' => e = .returned (.int .i64 ((freshD p n v).renameR soonS nowS).2) ∧ Stp G d W W' ((freshD p n v).renameR soonS nowS).1) :
    Calls Tryd.prog 33 #[.pointer (some ⟨mb, 0, none⟩), .agg #[fv, .int .i64 v.log, .int .i64 v.next, .int .u64 v.seq]] w (FreshOut w d mb F n fv0 fv v0 v op (freshR p n v)) := by
  obtain ⟨fl, lg, nx, sq⟩ := v
  simp only at hr hl he hlg hnx hsq ⊢
  obtain ⟨lg, rfl⟩ : ∃ k : Nat, lg = k := ⟨lg.toNat, by omega⟩
  obtain ⟨nx, rfl⟩ : ∃ k : Nat, nx = k := ⟨nx.toNat, by omega⟩
  obtain ⟨-, A, c, rfl, hc, -⟩ := id hr
  obtain ⟨en, hen⟩ : ∃ x, x = encL (allE ⟨fl, lg, nx, sq⟩) := ⟨_, rfl⟩
  obtain ⟨rn, hrn⟩ : ∃ x, x = recL en := ⟨_, rfl⟩
  obtain ⟨pb, hpb⟩ : ∃ x, x = pointB n := ⟨_, rfl⟩
  obtain ⟨R, hR⟩ : ∃ x, x = freshR p n ⟨fl, lg, nx, sq⟩ := ⟨_, rfl⟩
  have HRR := Lib.hid (show R = if 1048576 < en.length then (p, 6) else
      if 1073741824 < n + 1 then (p, 3) else
      if p.room - p.used < (rn.length + pb.length : Nat) then (p, 11) else
      if (putFile p (nameS (n + 1)) (rn)).2 ≠ 0 then putFile p (nameS (n + 1)) (rn) else
      if (putFile (putFile p (nameS (n + 1)) (rn)).1 soonS (pb)).2 ≠ 0 then putFile (putFile p (nameS (n + 1)) (rn)).1 soonS (pb) else
      ((putFile (putFile p (nameS (n + 1)) (rn)).1 soonS (pb)).1).renameR soonS nowS by rw [hR, hrn, hpb, hen]; rfl)
  have HREN := Lib.hid (show ∀ (W : World) (G : Nat → Prop), DiskIs W d G (putFile (putFile p (nameS (n + 1)) (rn)).1 soonS (pb)).1 → Calls Tryd.prog 56 #[.pointer (some ⟨d, 0, none⟩), .string soonS, .string nowS] W fun e W' => e = .returned (.int .i64 ((putFile (putFile p (nameS (n + 1)) (rn)).1 soonS (pb)).1.renameR soonS nowS).2) ∧ Stp G d W W' ((putFile (putFile p (nameS (n + 1)) (rn)).1 soonS (pb)).1.renameR soonS nowS).1 by rw [hrn, hpb, hen]; exact hren)
  rw [← hR]
  have HEN := Lib.hid hen
  have HRN := Lib.hid hrn
  have HPB := Lib.hid hpb
  have hpbl : pb.length ≤ 22 := by rw [hpb]; exact pointB_len n (by omega)
  have HG := Lib.hid hG
  have HD := Lib.hid hD
  have HM := Lib.hid hM
  have HR := Lib.hid hr
  have HV := Lib.hid hv
  have HE := Lib.hid he
  have HNF := Lib.hid (show ¬ F mb from hmF)
  have HF0 := Lib.hid hF0
  have HF1 := Lib.hid hF1
  have hmbw := lt_of_heap hM
  clear hren hR hen hrn hpb hG hD hM hr hv he hmF hF0 hF1
  obtain ⟨W0, hW0⟩ : ∃ x, x = (w.alloc (.cells #[.pointer (some ⟨mb, 0, none⟩)] 30)).alloc (.cells #[.slice A fl.length c, .int .i64 lg, .int .i64 nx, .int .u64 sq] 37) := ⟨_, rfl⟩
  have HB0 := Lib.hid (show RowKit.Below w.heap.size w W0 by rw [hW0]; exact ((Below.refl _ _).alloc (Nat.le_refl _) _).alloc (by simp) _)
  have HV0 := Lib.hid (show W0.heap[w.heap.size + 1]? = some (.cells #[.slice A fl.length c, .int .i64 lg, .int .i64 nx, .int .u64 sq] 37 (0, 0)) by
    rw [hW0]; have := heap_alloc_new (w.alloc (.cells #[.pointer (some ⟨mb, 0, none⟩)] 30)) (.cells #[.slice A fl.length c, .int .i64 lg, .int .i64 nx, .int .u64 sq] 37); simpa using this)
  have HP0 := Lib.hid (show W0.heap[w.heap.size]? = some (.cells #[.pointer (some ⟨mb, 0, none⟩)] 30 (0, 0)) by
    rw [hW0, Below.heap_alloc _ _ _ (by simp)]; exact heap_alloc_new w _)
  have hWl : w.heap.size + 1 < W0.heap.size := lt_of_heap HV0.out
  have HW0 := Lib.hid hW0.symm
  clear hW0
  have hal := all_version_calls W0 (HR.out.keep fun q hq => HB0.out.block q (HV.out q hq)) (fun q hq => Nat.lt_trans (HV.out q hq) (by omega)) (by omega) lg nx sq
  go_enter Tryd.func33, Tryd.ntmps33
  go_wp2_with fail
  rw [HW0.out]
  refine hal.mono ?_
  rintro e w1 ⟨v1, rfl, g1, g2, g3⟩
  have HB1 := Lib.hid (HB0.out.trans (g2.mono (by omega)))
  have HO1 := Lib.hid g1
  obtain ⟨-, A1, c1, rfl, -⟩ := id g1.rds
  have HP1 := Lib.hid ((g2.block w.heap.size (by omega)).trans HP0.out)
  have HV1 := Lib.hid ((g2.block (w.heap.size + 1) (by omega)).trans HV0.out)
  clear g1 g2 g3 hal
  have hec := encode_calls w1 (dv := .slice none 0 0) (del := []) HO1.out.rds (Own.nil w1 3 1).rds HO1.out.lt (fun k hk => by cases hk) lg nx sq (by omega) (by omega) (by omega) (fun m hm => by cases hm) HE.out (by simp) (by omega)
  go_wp2_with fail
  refine hec.mono ?_
  rintro e w2 ⟨v2, rfl, g1, g2, g3⟩
  have HB2 := Lib.hid (HB1.out.trans (g2.mono HB1.out.size))
  have HO2 := Lib.hid (show OwnB w2 v2 en by rw [HEN.out]; exact g1)
  have hg1' : OwnB w2 v2 en := HO2.out
  obtain ⟨-, A2, c2, hv2, -⟩ := id hg1'.rds
  subst hv2
  have hw1l : w.heap.size + 1 < w1.heap.size := lt_of_heap HV1.out
  have HP2 := Lib.hid ((g2.block w.heap.size (by omega)).trans HP1.out)
  have HV2 := Lib.hid ((g2.block (w.heap.size + 1) (by omega)).trans HV1.out)
  clear g1 g2 g3 hec hg1'
  by_cases hlong : 1048576 < en.length
  · have HF := Lib.hid (show R = (p, 6) by rw [HRR.out, if_pos hlong])
    have hrp := recPut_long w2 (show OwnB w2 (.slice none 0 0) [] from Own.nil _ _ _) HO2.out.rds hlong
    clear hlong
    go_wp2_with fail
    refine hrp.mono ?_
    rintro e w' ⟨rfl, rfl⟩
    go_wp2_with fail
    go_ret
    rw [HF.out]
    exact FreshOut.of HM.out HNF.out ((FI.refl HD.out).below HB2.out) (by simp)
  · have HRR1 := Lib.hid (HRR.out.trans (if_neg hlong))
    have hrp := recPut_calls w2 (HG.out.below HB2.out).crc (show OwnB w2 (.slice none 0 0) [] from Own.nil _ _ _) (fun h => by cases h) HO2.out.rds (fun k hk => ⟨HO2.out.lt k hk, fun h => by cases h⟩) (by simp) (by omega)
    clear HRR
    go_wp2_with fail
    refine hrp.mono ?_
    rintro e w3 ⟨v3, rfl, g1⟩
    have HO3 := Lib.hid (show OwnB w3 v3 rn by rw [HRN.out]; exact g1.1)
    have HB23 := Lib.hid (show RowKit.Below w2.heap.size w2 w3 from g1.2.1.below (fun k hk => by cases hk) (Nat.le_refl _))
    have HB3 := Lib.hid (HB2.out.trans (HB23.out.mono HB2.out.size))
    have HN3 := Lib.hid (show ∀ k, v3.ownBlock = some k → w.heap.size ≤ k from fun k hk => (g1.2.2 k hk).elim (fun h => by cases h) fun h => Nat.le_trans HB2.out.size h)
    obtain ⟨-, A3, c3, hv3, -⟩ := id HO3.out.rds
    subst hv3
    have hw2l : w.heap.size + 1 < w2.heap.size := lt_of_heap HV2.out
    have HP3 := Lib.hid ((HB23.out.block w.heap.size (by omega)).trans HP2.out)
    have HV3 := Lib.hid ((HB23.out.block (w.heap.size + 1) (by omega)).trans HV2.out)
    have HM3 := Lib.hid ((HB3.out.block mb hmbw).trans HM.out)
    have hreclen : rn.length ≤ 1048588 := by rw [HRN.out, recL_length]; omega
    have HRNL := Lib.hid hreclen
    clear g1 hrp hlong
    have t3 := cell_of_heap HP3.out 0
    have t3m : w3.cell? ⟨mb, 1, none⟩ = some (.int .i64 n) := cell_of_heap HM3.out 1
    have hwn : IntKind.i64.wrap ((n : Int) + 1) = (n : Int) + 1 := by rw [IntKind.wrap_i64]; omega
    have hpc := put_calls w3 (show OwnB w3 (.slice none 0 0) [] from Own.nil _ _ _) (n + 1) (by omega) (by simp)
    go_wp2_with fail
    refine hpc.mono ?_
    rintro e w4 ⟨v4, rfl, g1⟩
    obtain ⟨pn, hpn⟩ : ∃ x, x = putL (n + 1) := ⟨_, rfl⟩
    have HPN := Lib.hid hpn
    have hpl : pn.length ≤ 10 := by rw [hpn]; exact putL_len10 (n := n + 1) (by omega)
    have HO4 := Lib.hid (show OwnB w4 v4 pn by rw [hpn]; exact g1.1)
    clear hpn
    have HB34 := Lib.hid (show RowKit.Below w3.heap.size w3 w4 from g1.2.1.below (fun k hk => by cases hk) (Nat.le_refl _))
    have HB4 := Lib.hid (HB3.out.trans (HB34.out.mono HB3.out.size))
    obtain ⟨-, A4, c4, hv4, -⟩ := id HO4.out.rds
    subst hv4
    clear g1 hpc t3 t3m
    have hrp := recPut_calls w4 (HG.out.below HB4.out).crc (show OwnB w4 (.slice none 0 0) [] from Own.nil _ _ _) (fun h => by cases h) HO4.out.rds (fun k hk => ⟨HO4.out.lt k hk, fun h => by cases h⟩) (by simp) (by omega)
    go_wp2_with fail
    refine hrp.mono ?_
    rintro e w5 ⟨v5, rfl, g1⟩
    have HO5 := Lib.hid (show OwnB w5 v5 pb by rw [HPB.out]; unfold pointB; rw [← HPN.out]; exact g1.1)
    have HB45 := Lib.hid (show RowKit.Below w4.heap.size w4 w5 from g1.2.1.below (fun k hk => by cases hk) (Nat.le_refl _))
    have HB5 := Lib.hid (HB4.out.trans (HB45.out.mono HB4.out.size))
    have HN5 := Lib.hid (show ∀ k, v5.ownBlock = some k → w.heap.size ≤ k from fun k hk => (g1.2.2 k hk).elim (fun h => by cases h) fun h => Nat.le_trans HB4.out.size h)
    obtain ⟨-, A5, c5, hv5, -⟩ := id HO5.out.rds
    subst hv5
    have hB35 := HB34.out.trans (HB45.out.mono HB34.out.size)
    have hw3l : w.heap.size + 1 < w3.heap.size := lt_of_heap HV3.out
    have HP5 := Lib.hid ((hB35.block w.heap.size (by omega)).trans HP3.out)
    have HV5 := Lib.hid ((hB35.block (w.heap.size + 1) (by omega)).trans HV3.out)
    have HM5 := Lib.hid ((HB5.out.block mb hmbw).trans HM.out)
    have HO35 := Lib.hid (HO3.out.keep (w' := w5) fun q hq => hB35.block q (HO3.out.lt q hq))
    have HD5 := Lib.hid (HD.out.below HB5.out)
    clear g1 hrp hB35 HP1 HP2 HP3 HV1 HV2 HV3 HM3 HO1 HO2 HO3 HO4 HB34 HB45 HB23 HB1 HB2 HB3 HB4
    by_cases hmany : 1073741824 < n + 1
    · have HF := Lib.hid (show R = (p, 3) by rw [HRR1.out, if_pos hmany])
      have hmz : (1073741824 : Int) < (n : Int) + 1 := by omega
      clear hmany
      have t5 := cell_of_heap HP5.out 0
      have t5m : w5.cell? ⟨mb, 1, none⟩ = some (.int .i64 n) := cell_of_heap HM5.out 1
      go_wp2_with fail
      go_ret
      rw [HF.out]
      exact FreshOut.of HM.out HNF.out ((FI.refl HD.out).below HB5.out) (by simp)
    · have HRR2 := Lib.hid (HRR1.out.trans (if_neg hmany))
      have hmd : decide ((1073741824 : Int) < (n : Int) + 1) = false := decide_eq_false (by omega)
      clear hmany
      have t5 := cell_of_heap HP5.out 0
      have t5m : w5.cell? ⟨mb, 1, none⟩ = some (.int .i64 n) := cell_of_heap HM5.out 1
      have t5d : w5.cell? ⟨mb, 0, none⟩ = some (.pointer (some ⟨d, 0, none⟩)) := cell_of_heap HM5.out 0
      have hrm := room_calls HD5.out.is
      clear HRR1
      go_wp2_with fail
      refine hrm.mono ?_
      rintro e w' ⟨rfl, nq, rfl⟩
      clear hrm t5 t5m t5d
      by_cases hfull : p.room - p.used < (rn.length + pb.length : Nat)
      · have HF := Lib.hid (show R = (p, 11) by rw [HRR2.out, if_pos hfull])
        have hf2 : p.room - p.used < (rn.length : Int) + (pb.length : Int) := by omega
        clear hfull HRR2
        go_wp2_with fail
        go_ret
        rw [HF.out]
        exact FreshOut.of HM.out HNF.out (((FI.refl HD.out).below HB5.out).drewN nq) (by simp)
      · have HRR3 := Lib.hid (HRR2.out.trans (if_neg hfull))
        have hf2 : ¬ p.room - p.used < (rn.length : Int) + (pb.length : Int) := by omega
        clear hfull HRR2
        obtain ⟨w6, hw6⟩ : ∃ x, x = w5.drewN nq := ⟨_, rfl⟩
        have HH := Lib.hid (show w6.heap = w5.heap by rw [hw6]; rfl)
        have HB6 := Lib.hid (show RowKit.Below w.heap.size w w6 by rw [hw6]; exact belowDrew HB5.out nq)
        have HP6 := Lib.hid (HH.out ▸ HP5.out : w6.heap[w.heap.size]? = some (.cells #[.pointer (some ⟨mb, 0, none⟩)] 30 (0, 0)))
        have HV6 := Lib.hid (HH.out ▸ HV5.out : w6.heap[w.heap.size + 1]? = some (.cells #[.slice A fl.length c, .int .i64 lg, .int .i64 nx, .int .u64 sq] 37 (0, 0)))
        have HM6 := Lib.hid (HH.out ▸ HM5.out : w6.heap[mb]? = some (.cells (manCells d n fv0 v0 op) 64 (0, 0)))
        have HOF := Lib.hid (HO35.out.keep (w' := w6) fun q hq => by rw [HH.out])
        have HOP := Lib.hid (HO5.out.keep (w' := w6) fun q hq => by rw [HH.out])
        rw [← hw6]
        clear hw6 HH HP5 HV5 HM5 HO35 HO5 HD5 HB5
        have t6 := cell_of_heap HP6.out 0
        have t6m : w6.cell? ⟨mb, 1, none⟩ = some (.int .i64 n) := cell_of_heap HM6.out 1
        have hnm := name_calls w6 (HG.out.below HB6.out) (n + 1) (by omega)
        go_wp2_with fail
        refine hnm.mono ?_
        rintro e w7 ⟨rfl, g1⟩
        have hw6l : w.heap.size + 1 < w6.heap.size := lt_of_heap HV6.out
        obtain ⟨W8, hW8⟩ : ∃ x, x = w7.alloc (.cells #[.string (nameS (n + 1)), .string soonS] 9) := ⟨_, rfl⟩
        have hB8 : RowKit.Below w6.heap.size w6 W8 := by rw [hW8]; exact g1.alloc g1.size _
        have HB8 := Lib.hid (HB6.out.trans (hB8.mono HB6.out.size))
        have HP8 := Lib.hid ((hB8.block w.heap.size (by omega)).trans HP6.out)
        have HV8 := Lib.hid ((hB8.block (w.heap.size + 1) (by omega)).trans HV6.out)
        have HM8 := Lib.hid ((hB8.block mb (by omega)).trans HM6.out)
        have HOF8 := Lib.hid (HOF.out.keep (w' := W8) fun q hq => hB8.block q (HOF.out.lt q hq))
        have HOP8 := Lib.hid (HOP.out.keep (w' := W8) fun q hq => hB8.block q (HOP.out.lt q hq))
        have HNA := Lib.hid (show W8.heap[w7.heap.size]? = some (.cells #[.string (nameS (n + 1)), .string soonS] 9 (0, 0)) by rw [hW8]; exact heap_alloc_new w7 _)
        have hna : w7.heap.size < W8.heap.size := lt_of_heap HNA.out
        have hna2 : w.heap.size + 1 < w7.heap.size := Nat.lt_of_lt_of_le hw6l g1.size
        have HW8 := Lib.hid (show w7.alloc (.cells #[.string (nameS (n + 1)), .string ⟨#[115, 111, 111, 110]⟩] 9) = W8 from hW8.symm)
        have HFI := Lib.hid ((FI.refl HD.out).below HB8.out)
        have hw8 : w.heap.size ≤ W8.heap.size := HB8.out.size
        clear hW8 hB8 g1 hnm t6 t6m HP6 HV6 HM6 HOF HOP
        have HSTG := Lib.hid (show R = stg n rn pb 2 0 p from HRR3.out.trans (stg_two n rn pb p).symm)
        clear HRR3 hf2 hmd hreclen
        go_upto_region 12 with fail
        rw [HW8.out]
        generalize hnz : w7.heap.size = NA at *
        clear hnz HW8
        go_loopw [68, 9, 10, 11, 12, 13, 14] (fun i _ _ _ _ _ _ wr => ∃ (j k : Nat), i = .int .i64 j ∧ j + k = 2 ∧ Hid (∃ G, FI W8 wr d F G (qAt n rn pb p j)) ∧ Hid (R = stg n rn pb k j (qAt n rn pb p j))) (fun i _ _ _ _ _ _ _ => 2 - (intOf i).toNat)
        case atStart => exact ⟨0, 2, rfl, rfl, Lib.hid ⟨F, HD.out.below HB8.out, Keep.refl _ _, fun k _ hn => hn⟩, HSTG⟩
        case round =>
          obtain ⟨wo, hwo⟩ : ∃ x, x = wr := ⟨_, rfl⟩
          subst hwo
          obtain ⟨j, k, rfl, hjk, HFIj, HSTj⟩ := hrel
          obtain ⟨G, hfi⟩ := HFIj.out
          have HFIG := Lib.hid hfi
          have hwo8 : W8.heap.size ≤ wo.heap.size := hfi.keep.size
          have hold : ∀ b, w.heap.size ≤ b → b < W8.heap.size → wo.heap[b]? = W8.heap[b]? := fun b h1 h2 => hfi.block h2 (fun hf => by have := HD.out.lt b hf; omega)
          have HPo := Lib.hid ((hold w.heap.size (Nat.le_refl _) (by omega)).trans HP8.out)
          have HVo := Lib.hid ((hold (w.heap.size + 1) (by omega) (by omega)).trans HV8.out)
          have HNo := Lib.hid ((hold NA (by omega) hna).trans HNA.out)
          have HMo := Lib.hid ((hfi.block (by omega) HNF.out).trans HM8.out)
          have HOFo := Lib.hid (HOF8.out.keep (w' := wo) fun b hb => hold b (HN3.out b hb) (HOF8.out.lt b hb))
          have HOPo := Lib.hid (HOP8.out.keep (w' := wo) fun b hb => hold b (HN5.out b hb) (HOP8.out.lt b hb))
          clear hfi HFIj hold
          by_cases hlt : j < 2
          · obtain ⟨k, rfl⟩ : ∃ m, k = m + 1 := ⟨k - 1, by omega⟩
            obtain ⟨q, hq⟩ : ∃ x, x = qAt n rn pb p j := ⟨_, rfl⟩
            obtain ⟨s, hs⟩ : ∃ x, x = sAt n j := ⟨_, rfl⟩
            obtain ⟨b, hb⟩ : ∃ x, x = bAt rn pb j := ⟨_, rfl⟩
            have HQ1 := Lib.hid (show qAt n rn pb p (j + 1) = (putFile q s b).1 by rw [hq, hs, hb]; rfl)
            have HST1 := Lib.hid (show R = if (putFile q s b).2 ≠ 0 then putFile q s b else stg n rn pb k (j + 1) (putFile q s b).1 by rw [HSTj.out, hq, hs, hb]; rfl)
            rw [← hq] at HFIG
            have hssz : s.size ≤ maxLen := by rw [hs]; exact Nat.le_trans (sAt_size n j (by omega)) (by unfold maxLen; omega)
            have hbl : b.length ≤ 140737488355328 - 67108864 := by
              rw [hb]; unfold bAt
              have h1 : rn.length ≤ 1048588 := HRNL.out
              split <;> omega
            have hcn : wo.cell? ⟨NA, j, none⟩ = some (.string s) := by
              rw [hs]; unfold sAt
              rcases (by omega : j = 0 ∨ j = 1) with h | h
              · rw [if_pos h, h]; exact cell_of_heap HNo.out 0
              · rw [if_neg (by omega), h]; exact cell_of_heap HNo.out 1
            have HS := Lib.hid hs
            have HBA := Lib.hid hb
            have HSSZ := Lib.hid hssz
            have HBL := Lib.hid hbl
            clear hq hs hb hssz HSTj
            obtain ⟨W1, hW1⟩ : ∃ x, x = wo.alloc (.cells #[.string s] 9) := ⟨_, rfl⟩
            have hB1 : RowKit.Below wo.heap.size wo W1 := by rw [hW1]; exact (Below.refl _ _).alloc (Nat.le_refl _) _
            have HFI1 := Lib.hid (HFIG.out.below hB1)
            have HWO1 := Lib.hid ((FI.refl HFIG.out.dk).below hB1)
            have HS1 := Lib.hid (show W1.heap[wo.heap.size]? = some (.cells #[.string s] 9 (0, 0)) by rw [hW1]; exact heap_alloc_new wo _)
            have h91 : wo.heap.size < W1.heap.size := lt_of_heap HS1.out
            have HP1 := Lib.hid ((hB1.block w.heap.size (by omega)).trans HPo.out)
            have HM1 := Lib.hid ((hB1.block mb (by omega)).trans HMo.out)
            have HOF1 := Lib.hid (HOFo.out.keep (w' := W1) fun b hb => hB1.block b (HOFo.out.lt b hb))
            have HOP1 := Lib.hid (HOPo.out.keep (w' := W1) fun b hb => hB1.block b (HOPo.out.lt b hb))
            have HG9 := Lib.hid (show ¬ G wo.heap.size from fun h => by have := HFIG.out.dk.lt _ h; omega)
            have HGP := Lib.hid (show ¬ G w.heap.size from fun h => HFIG.out.apart _ (by omega) (fun hf => by have := HD.out.lt _ hf; omega) h)
            have HGM := Lib.hid (show ¬ G mb from fun h => HFIG.out.apart _ (by omega) HNF.out h)
            have HW1 := Lib.hid hW1.symm
            have HKS := Lib.hid (show ∀ m, Calls Tryd.prog 23 #[.pointer (some ⟨d, 0, none⟩), .string s] (W1.drewN m) fun e w' => e = .returned (.tuple #[.int .i64 (q.sizeR s).1, .int .i64 (q.sizeR s).2]) ∧ w' = W1.drewN m from fun m => Calls.same (size_calls (HFI1.out.drewN m).dk.is s))
            obtain ⟨⟨z1, z2⟩, hz⟩ : ∃ x, q.sizeR s = x := ⟨_, rfl⟩
            rw [hz] at HKS
            have HZ := Lib.hid hz
            clear hW1 hB1 hz HPo HVo HNo HMo HOFo HOPo
            go_upto_region 14 with fail
            clear hcn
            rw [HW1.out]
            have x1 : W1.cell? ⟨w.heap.size, 0, none⟩ = some (.pointer (some ⟨mb, 0, none⟩)) := cell_of_heap HP1.out 0
            have x2 : W1.cell? ⟨mb, 0, none⟩ = some (.pointer (some ⟨d, 0, none⟩)) := cell_of_heap HM1.out 0
            have x3 : W1.cell? ⟨wo.heap.size, 0, none⟩ = some (.string s) := cell_of_heap HS1.out 0
            go_wp2_with fail
            go_quiet (first
              | (go_at_call 23; exact Calls.quiet_of_same (HKS.out _)))
            obtain ⟨w2, hw2⟩ : ∃ x, x = W1.drewN nq := ⟨_, rfl⟩
            have HFI2 := Lib.hid (show FI W1 w2 d G G q by rw [hw2]; exact (FI.refl HFI1.out.dk).drewN nq)
            rw [← hw2]
            clear hw2 x1 x2 x3
            obtain ⟨q2, hq2⟩ : ∃ x, x = if (q.sizeR s).2 = 0 then (q.removeR s).1 else q := ⟨_, rfl⟩
            have HQ2 := Lib.hid hq2
            clear hq2
            go_upto_if 82 with fail
            go_cut [] (fun wx => Hid (∃ G2, FI W1 wx d G G2 q2) ∧ Hid (¬ ((q.sizeR s).2 = 0 ∧ (q.removeR s).2 ≠ 0)))
            case first =>
              by_cases hz2 : z2 = 0
              · have hzb : (z2 == 0) = true := by rw [beq_iff_eq]; exact hz2
                have HZ0 := Lib.hid (show (q.sizeR s).2 = 0 by rw [HZ.out]; exact hz2)
                have hrem := remove_calls (HFI2.out.drew.dk.is) s
                obtain ⟨⟨r1, r2⟩, hr⟩ : ∃ x, q.removeR s = x := ⟨_, rfl⟩
                rw [hr] at hrem
                simp only at hrem
                have HR := Lib.hid hr
                have x1 : w2.cell? ⟨w.heap.size, 0, none⟩ = some (.pointer (some ⟨mb, 0, none⟩)) := cell_of_heap ((HFI2.out.block (by omega) HGP.out).trans HP1.out) 0
                have x2 : w2.cell? ⟨mb, 0, none⟩ = some (.pointer (some ⟨d, 0, none⟩)) := cell_of_heap ((HFI2.out.block (by omega) HGM.out).trans HM1.out) 0
                have x3 : w2.cell? ⟨wo.heap.size, 0, none⟩ = some (.string s) := cell_of_heap ((HFI2.out.block (by omega) HG9.out).trans HS1.out) 0
                clear hz2 hr
                go_wp2_with fail
                refine region_tail 5 (by kernel_rfl) (by kernel_rfl) ?_
                simp only [List.take_succ_cons, List.take_zero, List.drop_succ_cons, List.drop_zero]
                repeat still_step
                refine wpStill_nil ?_
                go_wp2_with fail
                refine hrem.mono ?_
                rintro e w3 ⟨rfl, hS⟩
                obtain ⟨G3, h3⟩ := HFI2.out.step hS.ofDrew
                have HFI3 := Lib.hid h3
                clear hS h3 hrem x1 x2 x3
                by_cases hr2 : r2 = 0
                · have hrb : (r2 != 0) = false := by rw [bne_eq_false_iff_eq]; exact hr2
                  have HN := Lib.hid (show ¬ ((q.sizeR s).2 = 0 ∧ (q.removeR s).2 ≠ 0) by rw [HR.out]; simp [hr2])
                  have HQ3 := Lib.hid (show q2 = r1 by rw [HQ2.out, if_pos HZ0.out, HR.out])
                  clear hr2
                  go_wp2_with fail
                  go_meet
                  case rel => exact ⟨Lib.hid ⟨G3, HQ3.out ▸ HFI3.out⟩, HN⟩
                · have hrb : (r2 != 0) = true := by rw [bne_iff_ne]; exact hr2
                  have HF := Lib.hid (show R = (r1, r2) by
                    have h1 := putFile_rem (b := b) HZ0.out (by rw [HR.out]; exact hr2)
                    rw [HST1.out, h1, HR.out, if_pos hr2])
                  have HNZ := Lib.hid hr2
                  clear hr2
                  go_wp2_with fail
                  go_ret
                  rw [HF.out]
                  exact FreshOut.of HM.out HNF.out ((HFI.out.trans HFI1.out).trans HFI3.out) HNZ.out
              · have hzb : (z2 == 0) = false := by rw [beq_eq_false_iff_ne]; exact hz2
                have HZ0 := Lib.hid (show ¬ (q.sizeR s).2 = 0 by rw [HZ.out]; exact hz2)
                have HQ3 := Lib.hid (show q2 = q by rw [HQ2.out, if_neg HZ0.out])
                clear hz2
                go_wp2_with fail
                go_meet
                case rel => exact ⟨Lib.hid ⟨G, HQ3.out ▸ HFI2.out⟩, Lib.hid (fun h => HZ0.out h.1)⟩
            case rest =>
            obtain ⟨HCG, HNR⟩ := hcut
            obtain ⟨G2, hfi2⟩ := HCG.out
            have HFI2c := Lib.hid hfi2
            clear hfi2 HCG HFI2 HKS HZ
            obtain ⟨w3, hw3⟩ : ∃ x, x = wc := ⟨_, rfl⟩
            subst hw3
            have HPE := Lib.hid (putFile_eq (b := b) HQ2.out HNR.out)
            clear HQ2 HNR
            have h3s : W1.heap.size ≤ w3.heap.size := HFI2c.out.keep.size
            have HG29 := Lib.hid (HFI2c.out.apart _ h91 HG9.out)
            have HG2P := Lib.hid (HFI2c.out.apart w.heap.size (by omega) HGP.out)
            have HG2M := Lib.hid (HFI2c.out.apart mb (by omega) HGM.out)
            have HP3 := Lib.hid ((HFI2c.out.block (by omega) HGP.out).trans HP1.out)
            have HM3 := Lib.hid ((HFI2c.out.block (by omega) HGM.out).trans HM1.out)
            have HS3 := Lib.hid ((HFI2c.out.block h91 HG9.out).trans HS1.out)
            have hav : ∀ b, w.heap.size ≤ b → b < W8.heap.size → ¬ F b := fun b h1 h2 hf => by have := HD.out.lt b hf; omega
            have HOF3 := Lib.hid (HOF1.out.keep (w' := w3) fun b hb => HFI2c.out.block (HOF1.out.lt b hb) (HFIG.out.apart b (HOF8.out.lt b hb) (hav b (HN3.out b hb) (HOF8.out.lt b hb))))
            have HOP3 := Lib.hid (HOP1.out.keep (w' := w3) fun b hb => HFI2c.out.block (HOP1.out.lt b hb) (HFIG.out.apart b (HOP8.out.lt b hb) (hav b (HN5.out b hb) (HOP8.out.lt b hb))))
            have HGF := Lib.hid (show ∀ b, (Value.slice A3 rn.length c3).ownBlock = some b → ¬ G2 b from fun b hb => HFI2c.out.apart b (HOF1.out.lt b hb) (HFIG.out.apart b (HOF8.out.lt b hb) (hav b (HN3.out b hb) (HOF8.out.lt b hb))))
            have HGPB := Lib.hid (show ∀ b, (Value.slice A5 pb.length c5).ownBlock = some b → ¬ G2 b from fun b hb => HFI2c.out.apart b (HOP1.out.lt b hb) (HFIG.out.apart b (HOP8.out.lt b hb) (hav b (HN5.out b hb) (HOP8.out.lt b hb))))
            clear hav HP1 HM1 HS1 HOF1 HOP1 HGP HGM HG9
            obtain ⟨W4, hW4⟩ : ∃ x, x = w3.alloc (.cells #[.slice A3 rn.length c3] 22) := ⟨_, rfl⟩
            have hB4 : RowKit.Below w3.heap.size w3 W4 := by rw [hW4]; exact (Below.refl _ _).alloc (Nat.le_refl _) _
            have HX4 := Lib.hid (show W4.heap[w3.heap.size]? = some (.cells #[.slice A3 rn.length c3] 22 (0, 0)) by rw [hW4]; exact heap_alloc_new w3 _)
            have HG2X := Lib.hid (show ¬ G2 w3.heap.size from fun h => by have := HFI2c.out.dk.lt _ h; omega)
            have HFI4 := Lib.hid (HFI2c.out.below hB4)
            have h34 : w3.heap.size < W4.heap.size := lt_of_heap HX4.out
            have HP4 := Lib.hid ((hB4.block w.heap.size (by omega)).trans HP3.out)
            have HM4 := Lib.hid ((hB4.block mb (by omega)).trans HM3.out)
            have HS4 := Lib.hid ((hB4.block wo.heap.size (by omega)).trans HS3.out)
            have HOF4 := Lib.hid (HOF3.out.keep (w' := W4) fun b hb => hB4.block b (HOF3.out.lt b hb))
            have HOP4 := Lib.hid (HOP3.out.keep (w' := W4) fun b hb => hB4.block b (HOP3.out.lt b hb))
            have HW4 := Lib.hid hW4.symm
            have HKX1 := Lib.hid (HOF3.out.lt)
            have HKX2 := Lib.hid (HOP3.out.lt)
            clear hB4 hW4 HP3 HM3 HS3 HOF3 HOP3
            have y3 : W4.cell? ⟨wo.heap.size, 0, none⟩ = some (.string s) := cell_of_heap HS4.out 0
            have y4 : W4.cell? ⟨w3.heap.size, 0, none⟩ = some (.slice A3 rn.length c3) := cell_of_heap HX4.out 0
            have f4 : W4.frozen? ⟨w3.heap.size, 0, none⟩ = false := free_of_heap HX4.out 0
            obtain ⟨xb, hxb⟩ : ∃ x, x = if j = 0 then (Value.slice A3 rn.length c3) else .slice A5 pb.length c5 := ⟨_, rfl⟩
            have HXB := Lib.hid hxb
            clear hxb
            go_upto_region 20 with fail
            rw [HW4.out]
            go_upto_if 94 with fail
            go_cut [] (fun wx => Hid (FI W1 wx d G G2 q2) ∧ Hid (wx.heap[w3.heap.size]? = some (.cells #[xb] 22 (0, 0))) ∧ Hid (∀ k, k ≠ w3.heap.size → wx.heap[k]? = W4.heap[k]?) ∧ Hid (wx.heap.size = W4.heap.size))
            case first =>
              have x7 := HW4
              by_cases hj0 : j = 0
              · have hsb : (s.toList == [115, 111, 111, 110]) = false := by rw [HS.out, hj0]; exact sAt_soon0 n
                rw [hsb]
                have HX5 := Lib.hid (show xb = .slice A3 rn.length c3 by rw [HXB.out, if_pos hj0])
                clear hj0
                go_wp2_with fail
                go_meet
                case rel => exact ⟨HFI4, by rw [HX5.out]; exact HX4, Lib.hid (fun _ _ => rfl), Lib.hid rfl⟩
              · have hsb : (s.toList == [115, 111, 111, 110]) = true := by rw [HS.out]; exact sAt_soon1 n j hj0
                rw [hsb]
                have HX5 := Lib.hid (show xb = .slice A5 pb.length c5 by rw [HXB.out, if_neg hj0])
                clear hj0
                have HX6 := Lib.hid (heap_setCell_same HX4.out 0 (.slice A5 pb.length c5))
                have HFI6 := Lib.hid (HFI4.out.set (b := w3.heap.size) h3s HG2X.out 0 (.slice A5 pb.length c5))
                have HK6 := Lib.hid (show ∀ k, k ≠ w3.heap.size → (W4.setCell ⟨w3.heap.size, 0, none⟩ (.slice A5 pb.length c5)).heap[k]? = W4.heap[k]? from fun k hk => heap_setCell_other (p := ⟨w3.heap.size, 0, none⟩) hk _)
                have HSZ6 := Lib.hid (show (W4.setCell ⟨w3.heap.size, 0, none⟩ (.slice A5 pb.length c5)).heap.size = W4.heap.size by simp [World.setCell])
                go_wp2_with fail
                go_meet
                case rel => exact ⟨HFI6, by rw [HX5.out]; exact HX6, HK6, HSZ6⟩
            case rest =>
            obtain ⟨HFI5, HX5, HKE5, HSZ5⟩ := hcut
            clear y3 y4 f4 HFI4 HX4
            obtain ⟨w5x, hw5⟩ : ∃ x, x = wc := ⟨_, rfl⟩
            subst hw5
            have hsz5 : W4.heap.size ≤ w5x.heap.size := by rw [HSZ5.out]; exact Nat.le_refl _
            have HP5 := Lib.hid ((HKE5.out w.heap.size (by omega)).trans HP4.out)
            have HM5 := Lib.hid ((HKE5.out mb (by omega)).trans HM4.out)
            have HS5 := Lib.hid ((HKE5.out wo.heap.size (by omega)).trans HS4.out)
            have HRB := Lib.hid (show RdB w5x xb b ∧ (∀ k, xb.ownBlock = some k → k < w5x.heap.size ∧ ¬ G2 k) by
              rw [HXB.out, HBA.out]
              unfold bAt
              split
              · exact ⟨HOF4.out.rds.keep fun q hq => HKE5.out q (fun e => by have := HKX1.out q hq; omega), fun k hk => ⟨Nat.lt_of_lt_of_le (HOF4.out.lt k hk) hsz5, HGF.out k hk⟩⟩
              · exact ⟨HOP4.out.rds.keep fun q hq => HKE5.out q (fun e => by have := HKX2.out q hq; omega), fun k hk => ⟨Nat.lt_of_lt_of_le (HOP4.out.lt k hk) hsz5, HGPB.out k hk⟩⟩)
            obtain ⟨-, Ab, cb, hxs, -⟩ := id HRB.out.1
            subst hxs
            have HFB := Lib.hid (FI.refl HFI5.out.dk)
            clear HP4 HM4 HS4 HOF4 HOP4 HGF HGPB HKE5 HSZ5 HXB
            have hcr := create_calls (HFB.out.drew.dk.is) s HSSZ.out
            obtain ⟨⟨q3, r3⟩, hr3⟩ : ∃ x, q2.createR s = x := ⟨_, rfl⟩
            rw [hr3] at hcr HPE
            simp only at hcr HPE
            have y1 : w5x.cell? ⟨w.heap.size, 0, none⟩ = some (.pointer (some ⟨mb, 0, none⟩)) := cell_of_heap HP5.out 0
            have y2 : w5x.cell? ⟨mb, 0, none⟩ = some (.pointer (some ⟨d, 0, none⟩)) := cell_of_heap HM5.out 0
            have y3 : w5x.cell? ⟨wo.heap.size, 0, none⟩ = some (.string s) := cell_of_heap HS5.out 0
            clear hr3
            go_wp2_with fail
            refine region_tail 5 (by kernel_rfl) (by kernel_rfl) ?_
            simp only [List.take_succ_cons, List.take_zero, List.drop_succ_cons, List.drop_zero]
            repeat still_step
            refine wpStill_nil ?_
            go_wp2_with fail
            refine hcr.mono ?_
            rintro e w6x ⟨rfl, hS⟩
            obtain ⟨G6, h6⟩ := HFB.out.step hS.ofDrew
            have HFI6 := Lib.hid h6
            clear hS h6 hcr y1 y2 y3
            have HALL := Lib.hid (show FI w w6x d F G6 q3 from ((HFI.out.trans HFI1.out).trans (HFI5.out)).trans HFI6.out)
            by_cases hr3 : r3 = 0
            · subst hr3
              have HPE1 := Lib.hid (HPE.out.trans (if_neg (by simp)))
              clear HPE
              have h56 : w5x.heap.size ≤ w6x.heap.size := HFI6.out.keep.size
              have HP6 := Lib.hid ((HFI6.out.block (by omega) HG2P.out).trans HP5.out)
              have HM6 := Lib.hid ((HFI6.out.block (by omega) HG2M.out).trans HM5.out)
              have HS6 := Lib.hid ((HFI6.out.block (by omega) HG29.out).trans HS5.out)
              have HX6 := Lib.hid ((HFI6.out.block (by omega) HG2X.out).trans HX5.out)
              have HG6P := Lib.hid (HFI6.out.apart w.heap.size (by omega) HG2P.out)
              have HG6M := Lib.hid (HFI6.out.apart mb (by omega) HG2M.out)
              have HG69 := Lib.hid (HFI6.out.apart wo.heap.size (by omega) HG29.out)
              have HRB6 := Lib.hid (HRB.out.1.keep (w' := w6x) fun k hk => HFI6.out.block (HRB.out.2 k hk).1 (HRB.out.2 k hk).2)
              have hf1 := fresh1_calls (B1 := w.heap.size) (B2 := wo.heap.size) (B3 := w3.heap.size) HFI6.out.dk.is (s := s) (b := b) HRB6.out (fun k hk => ⟨Nat.lt_of_lt_of_le (HRB.out.2 k hk).1 h56, HFI6.out.apart k (HRB.out.2 k hk).1 (HRB.out.2 k hk).2⟩) HBL.out (cell_of_heap HP6.out 0) (cell_of_heap HM6.out 0) (cell_of_heap HS6.out 0) (cell_of_heap HX6.out 0)
              obtain ⟨⟨q4, r4⟩, hr4⟩ : ∃ x, q3.appendR s b = x := ⟨_, rfl⟩
              rw [hr4] at hf1 HPE1
              simp only at hf1 HPE1
              clear hr4 HP5 HM5 HS5 HX5
              go_wp2_with fail
              refine (estep_ok _ 54 _ (fun _ _ => by kernel_rfl) hf1).mono ?_
              rintro e w7x ⟨rfl, hS⟩
              obtain ⟨G7, h7⟩ := HALL.out.step hS
              have HALL7 := Lib.hid h7
              obtain ⟨G7', h7'⟩ := (FI.refl HFI6.out.dk).step hS
              have HFI7 := Lib.hid h7'
              have HALL7 := Lib.hid (HALL.out.trans h7')
              clear hS h7 h7' hf1
              by_cases hr4 : r4 = 0
              · subst hr4
                have HPE2 := Lib.hid (HPE1.out.trans (if_neg (by simp)))
                clear HPE1
                have HP7 := Lib.hid ((HFI7.out.block (by omega) HG6P.out).trans HP6.out)
                have HM7 := Lib.hid ((HFI7.out.block (by omega) HG6M.out).trans HM6.out)
                have HS7 := Lib.hid ((HFI7.out.block (by omega) HG69.out).trans HS6.out)
                have hf2 := fresh2_calls (B1 := w.heap.size) (B2 := wo.heap.size) HFI7.out.dk.is (s := s) (cell_of_heap HP7.out 0) (cell_of_heap HM7.out 0) (cell_of_heap HS7.out 0)
                obtain ⟨⟨q5, r5⟩, hr5⟩ : ∃ x, q4.syncR s = x := ⟨_, rfl⟩
                rw [hr5] at hf2 HPE2
                simp only at hf2 HPE2
                clear hr5 HP6 HM6 HS6 HX6
                go_wp2_with fail
                refine (estep_ok _ 55 _ (fun _ _ => by kernel_rfl) hf2).mono ?_
                rintro e w8x ⟨rfl, hS⟩
                obtain ⟨G8, h8⟩ := HALL7.out.step hS
                have HALL8 := Lib.hid h8
                obtain ⟨G8', h8'⟩ := (FI.refl HFI7.out.dk).step hS
                have HF8 := Lib.hid ((((HFIG.out.trans (HWO1.out)).trans HFI5.out).trans HFI6.out).trans (HFI7.out.trans h8'))
                clear hS h8 h8' hf2
                by_cases hr5 : r5 = 0
                · have hrb : (r5 != 0) = false := by rw [bne_eq_false_iff_eq]; exact hr5
                  have HSTn := Lib.hid (show R = stg n rn pb k (j + 1) (qAt n rn pb p (j + 1)) by rw [HST1.out, HPE2.out, HQ1.out, HPE2.out]; exact if_neg (by simp [hr5]))
                  have HQn := Lib.hid (show qAt n rn pb p (j + 1) = q5 by rw [HQ1.out, HPE2.out])
                  clear hr5
                  go_wp2_with fail
                  go_roundw
                  case rel => exact ⟨j + 1, k, by rw [Int.natCast_add]; rfl, by omega, Lib.hid ⟨_, HQn.out.symm ▸ HF8.out⟩, HSTn⟩
                  case measure => simp [intOf]; omega
                · have HNZ := Lib.hid hr5
                  have HF := Lib.hid (show R = (q5, r5) by rw [HST1.out, HPE2.out]; exact if_pos hr5)
                  have hrb : (r5 != 0) = true := by rw [bne_iff_ne]; exact hr5
                  clear hr5
                  go_wp2_with fail
                  go_ret
                  rw [HF.out]
                  exact FreshOut.of HM.out HNF.out HALL8.out HNZ.out
              · have HNZ := Lib.hid hr4
                have HF := Lib.hid (show R = (q4, r4) by rw [HST1.out, HPE1.out, if_pos hr4]; exact if_pos hr4)
                have hrb : (r4 != 0) = true := by rw [bne_iff_ne]; exact hr4
                clear hr4
                go_wp2_with fail
                refine (estep_err _ r4 HNZ.out _ _).mono ?_
                rintro e w' ⟨rfl, rfl⟩
                go_wp2_with fail
                go_ret
                rw [HF.out]
                exact FreshOut.of HM.out HNF.out HALL7.out HNZ.out
            · have HNZ := Lib.hid hr3
              have HF := Lib.hid (show R = (q3, r3) by rw [HST1.out, HPE.out, if_pos hr3]; exact if_pos hr3)
              have hrb : (r3 != 0) = true := by rw [bne_iff_ne]; exact hr3
              clear hr3
              go_wp2_with fail
              refine (estep_err _ r3 HNZ.out _ _).mono ?_
              rintro e w' ⟨rfl, rfl⟩
              go_wp2_with fail
              refine (estep_err _ r3 HNZ.out _ _).mono ?_
              rintro e w' ⟨rfl, rfl⟩
              go_wp2_with fail
              go_ret
              rw [HF.out]
              exact FreshOut.of HM.out HNF.out HALL.out HNZ.out
          · obtain rfl : k = 0 := by omega
            obtain rfl : j = 2 := by omega
            obtain ⟨q, hq⟩ : ∃ x, x = qAt n rn pb p 2 := ⟨_, rfl⟩
            have HRN2 := Lib.hid (HREN.out wo G (show DiskIs wo d G (qAt n rn pb p 2) from HFIG.out.dk.is))
            have HST2 := Lib.hid (show R = q.renameR soonS nowS by rw [HSTj.out, hq]; rfl)
            have hrn : Calls Tryd.prog 56 #[.pointer (some ⟨d, 0, none⟩), .string soonS, .string nowS] wo fun e W' => e = .returned (.int .i64 (q.renameR soonS nowS).2) ∧ Stp G d wo W' (q.renameR soonS nowS).1 := by rw [hq]; exact HRN2.out
            obtain ⟨⟨q9, r9⟩, hr9⟩ : ∃ x, q.renameR soonS nowS = x := ⟨_, rfl⟩
            rw [hr9] at hrn HST2
            simp only at hrn
            have y1 : wo.cell? ⟨w.heap.size, 0, none⟩ = some (.pointer (some ⟨mb, 0, none⟩)) := cell_of_heap HPo.out 0
            have y2 : wo.cell? ⟨mb, 0, none⟩ = some (.pointer (some ⟨d, 0, none⟩)) := cell_of_heap HMo.out 0
            clear hr9 hq hlt
            go_wp2_with fail
            refine hrn.mono ?_
            rintro e w9x ⟨rfl, hS⟩
            obtain ⟨G9, h9⟩ := (HFI.out.trans HFIG.out).step hS
            have HALL9 := Lib.hid h9
            obtain ⟨G9', h9'⟩ := (FI.refl HFIG.out.dk).step hS
            have HFI9 := Lib.hid h9'
            clear hS h9 h9' hrn y1 y2
            by_cases hr9 : r9 = 0
            · subst hr9
              have HGP := Lib.hid (show ¬ G w.heap.size from fun h => HFIG.out.apart _ (by omega) (fun hf => by have := HD.out.lt _ hf; omega) h)
              have HGV := Lib.hid (show ¬ G (w.heap.size + 1) from fun h => HFIG.out.apart _ (by omega) (fun hf => by have := HD.out.lt _ hf; omega) h)
              have HGM := Lib.hid (show ¬ G mb from fun h => HFIG.out.apart _ (by omega) HNF.out h)
              have HP9 := Lib.hid ((HFI9.out.block (by omega) HGP.out).trans HPo.out)
              have HV9 := Lib.hid ((HFI9.out.block (by omega) HGV.out).trans HVo.out)
              have HM9 := Lib.hid ((HFI9.out.block (by omega) HGM.out).trans HMo.out)
              have k1 : w9x.cell? ⟨w.heap.size, 0, none⟩ = some (.pointer (some ⟨mb, 0, none⟩)) := cell_of_heap HP9.out 0
              have k2 := cell_of_heap HV9.out 0
              have k3 := cell_of_heap HV9.out 1
              have k4 := cell_of_heap HV9.out 2
              have k5 := cell_of_heap HV9.out 3
              have k6 : w9x.cell? ⟨mb, 1, none⟩ = some (.int .i64 n) := cell_of_heap HM9.out 1
              have k7 : w9x.cell? ⟨mb, 2, none⟩ = some fv0 := cell_of_heap HM9.out 2
              have k8 : w9x.cell? ⟨mb, 3, none⟩ = some (.int .i64 v0.log) := cell_of_heap HM9.out 3
              have k9 : w9x.cell? ⟨mb, 4, none⟩ = some (.int .i64 v0.next) := cell_of_heap HM9.out 4
              have k10 : w9x.cell? ⟨mb, 5, none⟩ = some (.int .u64 v0.seq) := cell_of_heap HM9.out 5
              have k11 : w9x.cell? ⟨mb, 6, none⟩ = some (.bool op) := cell_of_heap HM9.out 6
              have l6 := free_of_heap HM9.out 1
              have l7 := free_of_heap HM9.out 2
              have l8 := free_of_heap HM9.out 3
              have l9 := free_of_heap HM9.out 4
              have l10 := free_of_heap HM9.out 5
              have l11 := free_of_heap HM9.out 6
              have hd1 : ¬ mb = w.heap.size := by omega
              have hd2 : ¬ mb = w.heap.size + 1 := by omega
              go_wp2_with fail
              go_region
              obtain ⟨T, hT⟩ : ∃ x, x = ((((((w9x.setCell ⟨mb, 1, none⟩ (.int .i64 ((n : Int) + 1))).setCell ⟨mb, 2, none⟩ (.slice A fl.length c)).setCell ⟨mb, 3, none⟩ (.int .i64 lg)).setCell ⟨mb, 4, none⟩ (.int .i64 nx)).setCell ⟨mb, 5, none⟩ (.int .u64 sq)).setCell ⟨mb, 6, none⟩ (.bool true)) := ⟨_, rfl⟩
              rw [← hT]
              have K9 := Lib.hid (show Keep (· = mb) w9x T by
                rw [hT]; exact ((((((Keep.refl (· = mb) w9x).set _ mb 1 rfl _).set _ mb 2 rfl _).set _ mb 3 rfl _).set _ mb 4 rfl _).set _ mb 5 rfl _).set _ mb 6 rfl _)
              have HMF := Lib.hid (show T.heap[mb]? = some (.cells (manCells d ((n + 1 : Nat) : Int) (.slice A fl.length c) ⟨fl, lg, nx, sq⟩ true) 64 (0, 0)) by
                rw [hT]; exact heap_setCell_same (heap_setCell_same (heap_setCell_same (heap_setCell_same (heap_setCell_same (heap_setCell_same HM9.out 1 _) 2 _) 3 _) 4 _) 5 _) 6 _)
              clear hT
              have HG9M := Lib.hid (show ¬ G9 mb from HALL9.out.apart mb (by omega) HNF.out)
              have HDT := Lib.hid (HALL9.out.dk.keep K9.out.size fun k hg => K9.out.block k (HALL9.out.dk.lt k hg) (fun e => HG9M.out (e ▸ hg)))
              have HKT := Lib.hid ((HALL9.out.keep.mono (G := fun k => F k ∨ k = mb) fun k hk => .inl hk).trans (K9.out.mono fun k hk => .inr hk))
              clear k1 k2 k3 k4 k5 k6 k7 k8 k9 k10 k11 l6 l7 l8 l9 l10 l11
              go_wp2_with fail
              go_ret
              rw [HST2.out]
              refine ⟨rfl, G9, ?_, ?_, HALL9.out.apart, ?_⟩
              · exact HDT.out.drew
              · exact ⟨HKT.out.os, HKT.out.tape, HKT.out.output, HKT.out.size, HKT.out.block⟩
              · rw [if_pos rfl]; exact HMF.out
            · have HNZ := Lib.hid hr9
              have hrb : (r9 != 0) = true := by rw [bne_iff_ne]; exact hr9
              clear hr9
              go_wp2_with fail
              go_ret
              rw [HST2.out]
              exact FreshOut.of HM.out HNF.out HALL9.out HNZ.out

end Go.Proofs.YtebkmpgmcldeoaaDoor
