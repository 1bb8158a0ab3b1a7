/- edit.Load: what is loaded of a disk. -/
import Derived.Test.YtebkmpgmcldeoaaDoorSq
import Derived.Deep.RegionLaw
namespace Go.Proofs.YtebkmpgmcldeoaaDoor
open Go Go.Proofs Go.RowKit Go.Sort
set_option linter.unusedVariables false

/-- what a call of Load leaves -/
def LoadOut (w : World) (d : Nat) (r : Int ⊕ (Nat × VersP)) (e : Ending) (w' : World) : Prop :=
  RowKit.Below w.heap.size w w' ∧ match r with
  | .inl x => e = .returned (.tuple #[.pointer none, .int .i64 x])
  | .inr (n, v) => ∃ mb fv, e = .returned (.tuple #[.pointer (some ⟨mb, 0, none⟩), .int .i64 0]) ∧ ManAt w' mb d n fv v false ∧ w.heap.size ≤ mb ∧ ∀ k, fv.ownBlock = some k → w.heap.size ≤ k

set_option maxRecDepth 100000 in
theorem load_nil (w : World) : Calls Tryd.prog 9 #[.pointer none] w fun e w' => e = .returned (.tuple #[.pointer none, .int .i64 1]) ∧ w = w' := by
  go_enter Tryd.func9, Tryd.ntmps9
  go_wp2
  go_ret2
  exact ⟨rfl, rfl⟩

theorem Inner.get {w : World} {base : Nat} : ∀ {vals : List Value} {ds : List (List UInt8)}, Inner w base vals ds → ∀ (j : Nat) (hj : j < ds.length), ∃ x, vals[j]? = some x ∧ OwnB w x ds[j] ∧ ∀ k, x.ownBlock = some k → base ≤ k
  | [], [], _, j, hj => by simp at hj
  | v :: vs, a :: ds, ⟨⟨h1, h2⟩, h⟩, 0, hj => ⟨v, rfl, h1, h2⟩
  | v :: vs, a :: ds, ⟨⟨h1, h2⟩, h⟩, j + 1, hj => by
    obtain ⟨x, e1, e2, e3⟩ := Inner.get h j (by simpa using hj)
    exact ⟨x, by simpa using e1, by simpa using e2, e3⟩
  | [], _ :: _, h, _, _ => h.elim
  | _ :: _, [], h, _, _ => h.elim
theorem Inner.lt {w : World} {base : Nat} {vals : List Value} {ds : List (List UInt8)} (h : Inner w base vals ds) : ∀ v ∈ vals, ∀ k, v.ownBlock = some k → base ≤ k := by
  intro v hv k hk
  obtain ⟨j, hj, rfl⟩ := List.getElem_of_mem hv
  obtain ⟨x, e1, -, e3⟩ := h.get j (by have := h.length; omega)
  rw [List.getElem?_eq_getElem hj] at e1
  injection e1 with e1
  subst e1
  exact e3 k hk

section
variable {w : World} {d : Nat} {F : Nat → Prop} {p : PD}
set_option maxRecDepth 100000 in
theorem load_down (h : DiskIs w d F p) (hd : p.down = true) : Calls Tryd.prog 9 #[.pointer (some ⟨d, 0, none⟩)] w fun e w' => LoadOut w d (loadR p) e w' := by
  have hcon := size_calls h nowS
  rw [PD.size_down hd] at hcon
  have HF := Lib.hid (show loadR p = .inl 10 by unfold loadR; rw [if_pos hd])
  clear h hd
  go_enter Tryd.func9, Tryd.ntmps9
  go_wp2_with fail
  refine hcon.mono ?_
  rintro e w' ⟨rfl, rfl⟩
  go_wp2
  go_ret2
  rw [HF.out]
  exact ⟨Below.refl _ _, rfl⟩

set_option maxHeartbeats 400000 in
set_option maxRecDepth 100000 in
theorem load_fresh (h : DiskIs w d F p) (hd : p.down = false) (hn : p.fileB nowS = none) : Calls Tryd.prog 9 #[.pointer (some ⟨d, 0, none⟩)] w fun e w' => LoadOut w d (loadR p) e w' := by
  have hcon := size_calls h nowS
  rw [PD.size_none hd hn] at hcon
  have HF := Lib.hid (show loadR p = .inr (0, firstV) by unfold loadR; rw [if_neg (by simp [hd]), hn])
  clear h hd hn
  go_enter Tryd.func9, Tryd.ntmps9
  go_wp2_with fail
  refine hcon.mono ?_
  rintro e w' ⟨rfl, rfl⟩
  go_wp2_with fail
  refine (first_calls _).mono ?_
  rintro e w' ⟨rfl, hB⟩
  have HB := Lib.hid hB
  clear hB
  have HM := Lib.hid (heap_alloc_new w' (.cells (manCells d 0 (.slice none 0 0) firstV false) 64))
  have HB2 := Lib.hid (HB.out.alloc HB.out.size (.cells (manCells d 0 (.slice none 0 0) firstV false) 64))
  go_wp2_with fail
  go_ret2
  rw [HF.out]
  exact ⟨HB2.out, w'.heap.size, .slice none 0 0, rfl, ⟨HM.out, (Own.nil w' 0 5).rds.keep (fun k hk => by cases hk), fun k hk => by cases hk⟩, HB.out.size, fun k hk => by cases hk⟩

set_option maxHeartbeats 1000000 in
set_option maxRecDepth 100000 in
theorem load_main (hG : Globs w) (h : DiskIs w d F p) (hd : p.down = false) {b : List UInt8} (hn : p.fileB nowS = some b) : Calls Tryd.prog 9 #[.pointer (some ⟨d, 0, none⟩)] w fun e w' => LoadOut w d (loadR p) e w' := by
  have hbl := h.len_le hn
  have HD := Lib.hid h
  have HG := Lib.hid hG
  have HDN := Lib.hid hd
  have hcon := size_calls h nowS
  rw [(PD.size_some hd hn).1] at hcon
  have hcon2 := read_ok h nowS 0 (b.length : Int) (by rw [(PD.size_some hd hn).2])
  rw [(PD.size_some hd hn).2] at hcon2
  obtain ⟨⟨dt, k, e1⟩, hx⟩ : ∃ x, nextL b = x := ⟨_, rfl⟩
  have HR := Lib.hid (show loadR p = if e1 ≠ 0 ∨ k ≠ b.length then .inl 12 else
    if (getL dt).2.2 ≠ 0 ∨ (getL dt).2.1 ≠ dt.length ∨ (getL dt).1 < 1 ∨ 1073741824 < (getL dt).1 then .inl 12 else
    loadC (getL dt).1 (p.fileB (nameS (getL dt).1)) by unfold loadR; rw [if_neg (by simp [hd]), hn]; simp only; unfold loadB; rw [hx])
  generalize loadR p = R at HR ⊢
  have hdl := nextL_len b
  rw [hx] at hdl
  simp only at hdl
  have HX := Lib.hid hx
  clear h hd hn hx hG
  go_enter Tryd.func9, Tryd.ntmps9
  go_wp2_with fail
  refine hcon.mono ?_
  rintro e w' ⟨rfl, rfl⟩
  go_wp2_with fail
  refine hcon2.mono ?_
  rintro e w1 ⟨v1, rfl, g1, g2, g3⟩
  clear hcon hcon2
  have HB1 := Lib.hid g2
  have HO1 := Lib.hid (show OwnB w1 v1 b from g1)
  obtain ⟨-, A1, c1, rfl, -⟩ := id g1.rds
  clear g1 g2 g3
  have hnx := next_calls w1 (HG.out.below HB1.out).crc HO1.out.rds (by omega)
  rw [HX.out] at hnx
  simp only at hnx
  go_wp2_with fail
  refine hnx.mono ?_
  rintro e w2 ⟨v2, rfl, g1, g2, g3⟩
  have HB2 := Lib.hid (HB1.out.trans (g2.mono HB1.out.size))
  have HO2 := Lib.hid (show OwnB w2 v2 dt from g1)
  obtain ⟨-, A2, c2, rfl, -⟩ := id g1.rds
  clear g1 g2 g3 hnx
  by_cases he1 : e1 = 0
  · by_cases hk : k = b.length
    · have b1 : ((e1 : Int) != 0) = false := by rw [bne_eq_false_iff_eq]; omega
      have b2 : ((k : Int) != (b.length : Int)) = false := by rw [bne_eq_false_iff_eq]; omega
      have HR1 := Lib.hid (HR.out.trans (if_neg (by rintro (h | h) <;> omega)))
      clear HR he1 hk
      have hgt := get_calls w2 HO2.out.rds (by omega)
      obtain ⟨⟨n, k2, e2⟩, hx2⟩ : ∃ x, getL dt = x := ⟨_, rfl⟩
      rw [hx2] at hgt HR1
      simp only at hgt HR1
      clear hx2
      go_wp2_with fail
      refine hgt.mono ?_
      rintro e w' ⟨rfl, rfl⟩
      clear hgt b1 b2
      have hnb : ∀ (x : Nat), True := fun _ => trivial
      by_cases hok : e2 = 0 ∧ k2 = dt.length ∧ 1 ≤ n ∧ n ≤ 1073741824
      · obtain ⟨q1, q2, q3, q4⟩ := hok
        have b1 : ((e2 : Int) != 0) = false := by rw [bne_eq_false_iff_eq]; omega
        have b2 : ((k2 : Int) != (dt.length : Int)) = false := by rw [bne_eq_false_iff_eq]; omega
        have HR2 := Lib.hid (HR1.out.trans (if_neg (by omega)))
        clear HR1 q1 q2
        have hwn : IntKind.i64.wrap (n : Int) = (n : Int) := by rw [IntKind.wrap_i64]; omega
        have hfc := first_calls w2
        go_wp2_with fail
        refine hfc.mono ?_
        rintro e w3 ⟨rfl, g2⟩
        clear hfc
        obtain ⟨W3, hW3⟩ : ∃ x, x = w3.alloc (.cells (manCells d n (.slice none 0 0) firstV false) 64) := ⟨_, rfl⟩
        have HM := Lib.hid (show W3.heap[w3.heap.size]? = some (.cells (manCells d n (.slice none 0 0) firstV false) 64 (0, 0)) by rw [hW3]; exact heap_alloc_new w3 _)
        have HB3 := Lib.hid (show RowKit.Below w.heap.size w W3 by rw [hW3]; exact (HB2.out.trans (g2.mono HB2.out.size)).alloc (Nat.le_trans HB2.out.size g2.size) _)
        have hmb : w.heap.size ≤ w3.heap.size := Nat.le_trans HB2.out.size g2.size
        have HW3 := Lib.hid (show w3.alloc (.cells #[.pointer (some ⟨d, 0, none⟩), .int .i64 (n : Int), .slice none 0 0, .int .i64 1, .int .i64 1, .int .u64 0, .bool false] 64) = W3 from hW3.symm)
        clear hW3 g2
        have n1 := (name_calls W3 (HG.out.below HB3.out) n (by omega))
        have m1 := cell_of_heap HM.out 1
        go_wp2_with fail
        rw [HW3.out]
        clear HW3
        generalize w3.heap.size = mb at *
        refine n1.mono ?_
        rintro e w4 ⟨rfl, g2⟩
        have HB4 := Lib.hid (HB3.out.trans (g2.mono HB3.out.size))
        have HM4 := Lib.hid ((g2.block _ (lt_of_heap HM.out)).trans HM.out)
        clear g2 n1 m1 HM
        have hsz := size_calls (HD.out.below HB4.out) (nameS n)
        cases hfc : p.fileB (nameS n) with
        | none =>
          rw [PD.size_none HDN.out hfc] at hsz
          have HF := Lib.hid (show R = .inl 12 by rw [HR2.out, hfc]; rfl)
          clear hfc
          go_wp2_with fail
          refine hsz.mono ?_
          rintro e w' ⟨rfl, rfl⟩
          go_wp2_with fail
          go_ret2
          rw [HF.out]
          exact ⟨HB4.out, rfl⟩
        | some c =>
          have hcl := HD.out.len_le hfc
          rw [(PD.size_some HDN.out hfc).1] at hsz
          have HRD := Lib.hid (PD.size_some HDN.out hfc).2
          have HR3 := Lib.hid (show R = if (allL c).2.2 ≠ 0 ∨ (allL c).1.length = 0 then .inl 12 else loadV n (loadFold firstV (allL c).1) by rw [HR2.out, hfc]; rfl)
          have m1 : w4.cell? ⟨mb, 1, none⟩ = some (.int .i64 n) := cell_of_heap HM4.out 1
          clear hfc HR2
          go_wp2_with fail
          refine hsz.mono ?_
          rintro e w' ⟨rfl, rfl⟩
          clear hsz
          have n1 := (name_calls w4 (HG.out.below HB4.out) n (by omega))
          go_wp2_with fail
          refine n1.mono ?_
          rintro e w5 ⟨rfl, g2⟩
          have HB5 := Lib.hid (HB4.out.trans (g2.mono HB4.out.size))
          have HM5 := Lib.hid ((g2.block _ (lt_of_heap HM4.out)).trans HM4.out)
          clear g2 n1 m1 HM4
          have hrd := read_ok (HD.out.below HB5.out) (nameS n) 0 (c.length : Int) (by rw [HRD.out])
          rw [HRD.out] at hrd
          go_wp2_with fail
          refine hrd.mono ?_
          rintro e w6 ⟨v6, rfl, g1, g2, g3⟩
          have HO6 := Lib.hid (show OwnB w6 v6 c from g1)
          have HB6 := Lib.hid (HB5.out.trans (g2.mono HB5.out.size))
          have HM6 := Lib.hid ((g2.block _ (lt_of_heap HM5.out)).trans HM5.out)
          obtain ⟨-, A6, c6, rfl, -⟩ := id g1.rds
          clear g1 g2 g3 hrd HM5
          have hal := all_calls w6 (HG.out.below HB6.out).crc HO6.out.rds HO6.out.lt (by omega)
          have hlen := allL_len c
          obtain ⟨⟨ds, k3, e3⟩, hx3⟩ : ∃ x, allL c = x := ⟨_, rfl⟩
          rw [hx3] at hal HR3 hlen
          simp only at hal HR3 hlen
          have HLEN := Lib.hid hlen
          clear hx3 hlen
          go_wp2_with fail
          refine hal.mono ?_
          rintro e w7 ⟨v7, vals, rfl, g1, g2, g3, g4⟩
          have HO7 := Lib.hid g1
          have HI7 := Lib.hid (show Inner w7 w6.heap.size vals ds from g2)
          have HB7 := Lib.hid (HB6.out.trans (g3.mono HB6.out.size))
          have HM7 := Lib.hid ((g3.block _ (lt_of_heap HM6.out)).trans HM6.out)
          have hmb7 : mb < w6.heap.size := lt_of_heap HM6.out
          have HV7 := Lib.hid g4
          obtain ⟨-, A7, c7, rfl, hc7, hA7, -⟩ := id g1.rds
          clear g1 g2 g3 g4 hal HM6
          by_cases hok : e3 = 0 ∧ ds.length ≠ 0
          · obtain ⟨q1, q2⟩ := hok
            have b1 : ((e3 : Int) != 0) = false := by rw [bne_eq_false_iff_eq]; omega
            have b2 : ((ds.length : Int) == 0) = false := by rw [beq_eq_false_iff_ne]; omega
            have HR4 := Lib.hid (HR3.out.trans (if_neg (by omega)))
            have hvl : vals.length = ds.length := HI7.out.length
            have hdsl : ds.length ≤ 9223372036854775807 := by
              obtain ⟨A', c', -, h1, h2⟩ := HO7.out.len
              unfold maxLen at h2
              omega
            clear HR3 q1 q2
            go_wp2_with fail
            go_loopw [120, 15, 16, 17] (fun i _ _ _ wr => ∃ (j : Nat) (v : VersP) (fv : Value), i = .int .i64 j ∧ j ≤ ds.length ∧ Hid (wr.heap[mb]? = some (.cells (manCells d n fv v false) 64 (0, 0))) ∧ Hid (Rds wr 5 fv v.files.length (metaV v.files)) ∧ Hid (∀ q, fv.ownBlock = some q → w.heap.size ≤ q ∧ q < wr.heap.size ∧ q ≠ mb) ∧ Hid (Keep (· = mb) w7 wr) ∧ Hid (fitV v) ∧ Hid (loadFold firstV ds = loadFold v (ds.drop j))) (fun i _ _ _ _ => ds.length - (intOf i).toNat)
            case atStart => exact ⟨0, firstV, .slice none 0 0, rfl, Nat.zero_le _, HM7, Lib.hid ((Own.nil w7 0 5).rds.keep (fun k hk => by cases hk)), Lib.hid (fun k hk => by cases hk), Lib.hid (Keep.refl _ _), Lib.hid firstV_fit, Lib.hid (by simp)⟩
            case round =>
              obtain ⟨wo, hwo⟩ : ∃ x, x = wr := ⟨_, rfl⟩
              subst hwo
              obtain ⟨j, v, fv, rfl, hj, HMr, HRr, HBr, HK, HFT, HLF⟩ := hrel
              by_cases hlt : j < ds.length
              · cases A7 with
                | none => have := (hA7 rfl).1; omega
                | some a =>
                  obtain ⟨bb, oo, ss⟩ := a
                  obtain ⟨x, hxv, hxo, hxb⟩ := (HI7.out.keep HK.out (fun v hv k hk e => by have := HI7.out.lt v hv k hk; omega)).get j hlt
                  obtain ⟨rfl, rfl⟩ : ss = none ∧ oo = 0 := by
                    rcases HO7.out.2 with ⟨h1, _⟩ | ⟨g, cap, cur, h1, _⟩
                    · cases h1
                    · injection h1 with h1 _ _; injection h1 with h1; injection h1 with _ h2 h3; exact ⟨h3, h2⟩
                  have hbb : mb < bb := by have := HV7.out bb rfl; omega
                  have cx : wo.cell? ⟨bb, j, none⟩ = some x := by
                    obtain ⟨-, A', c', he, -, -, hcc⟩ := HO7.out.rds
                    injection he with he _ _
                    have h1 := (hcc _ he.symm).2 j x hxv
                    rw [← h1]
                    have h2 : (Addr.mk bb 0 none).add j = ⟨bb, j, none⟩ := by cases j <;> simp [Addr.add]
                    rw [h2]
                    exact HK.out.cell (p := ⟨bb, j, none⟩) (HO7.out.lt bb rfl) (by show ¬ bb = mb; omega)
                  have HXO := Lib.hid hxo
                  obtain ⟨-, Ax, cxx, rfl, -⟩ := id hxo.rds
                  have HDS := Lib.hid (List.drop_eq_getElem_cons hlt)
                  have hdl9 := HLEN.out ds[j] (List.getElem_mem hlt)
                  generalize ds[j] = dj at HXO HDS hdl9 cx
                  have hdec := decode_calls wo HXO.out.rds HXO.out.lt (by omega)
                  obtain ⟨⟨⟨qa, qd, ql, qn, qs⟩, q2⟩, hq⟩ : ∃ q, decodeR dj = q := ⟨_, rfl⟩
                  have hz := decodeR_add dj
                  rw [hq] at hdec hz
                  simp only at hdec hz
                  obtain ⟨z1, z2, z3⟩ := hz
                  have HLF2 := Lib.hid (show loadFold v (ds.drop j) = if q2 ≠ 0 then none else if (applyR v ⟨qa, qd, ql, qn, qs⟩).2 ≠ 0 then none else loadFold (applyR v ⟨qa, qd, ql, qn, qs⟩).1 (ds.drop (j + 1)) by
                    rw [HDS.out, loadFold, hq])
                  have HZ3 := Lib.hid z3
                  have hwo7 := HK.out.size
                  clear hxv hxo hxb hq z3 hdl9
                  go_wp2_with fail
                  (with_reducible refine hdec.mono ?_)
                  rintro e w9 ⟨av, dv, rfl, g1, g2, g3, g4, g5⟩
                  obtain ⟨-, Aa, ca, rfl, -⟩ := id g1.rds
                  obtain ⟨-, Ad, cd, rfl, -⟩ := id g2.rds
                  obtain ⟨W9, hW9⟩ : ∃ x, x = w9.alloc (.cells #[.slice Aa qa.length ca, .slice Ad qd.length cd, .int .i64 ql, .int .i64 qn, .int .u64 qs] 46) := ⟨_, rfl⟩
                  have hb9 : RowKit.Below w9.heap.size w9 W9 := by rw [hW9]; exact (Below.refl _ _).alloc (Nat.le_refl _) _
                  have HE9 := Lib.hid (show W9.heap[w9.heap.size]? = some (.cells #[.slice Aa qa.length ca, .slice Ad qd.length cd, .int .i64 ql, .int .i64 qn, .int .u64 qs] 46 (0, 0)) by rw [hW9]; exact heap_alloc_new w9 _)
                  have hb79 : RowKit.Below wo.heap.size wo W9 := g3.trans (hb9.mono g3.size)
                  have HM9 := Lib.hid ((hb79.block mb (lt_of_heap HMr.out)).trans HMr.out)
                  have HR9 := Lib.hid (HRr.out.keep (w' := W9) fun q hq => hb79.block q (HBr.out q hq).2.1)
                  have HA9 := Lib.hid (g1.keep (w' := W9) fun q hq => hb9.block q (g1.lt q hq))
                  have HD9 := Lib.hid (g2.keep (w' := W9) fun q hq => hb9.block q (g2.lt q hq))
                  have HK9 := Lib.hid (show Keep (· = mb) w7 W9 from HK.out.trans (Keep.of_below hb79))
                  have HS9 := Lib.hid (show wo.heap.size ≤ W9.heap.size from hb79.size)
                  have HW9 := Lib.hid hW9
                  have HB9 := Lib.hid (HB7.out.trans (show RowKit.Below w.heap.size w7 W9 from HK9.out.below (fun k e => by omega) HB7.out.size))
                  clear g1 g2 g3 g4 g5 hdec hW9 hb9 hb79 cx
                  by_cases hq2 : q2 = 0
                  · have b3 : (q2 != 0) = false := by rw [bne_eq_false_iff_eq]; exact hq2
                    have HLF3 := Lib.hid (HLF2.out.trans (if_neg (by simp [hq2])))
                    clear hq2 HLF2
                    go_upto_region 29 with fail
                    rw [HW9.out.symm]
                    obtain ⟨fl, vlg, vnx, vsq⟩ := v
                    obtain ⟨-, Af, cf, hfv, -⟩ := id HR9.out
                    subst hfv
                    have HR9 : Hid (Rds W9 5 (.slice Af fl.length cf) fl.length (metaV fl)) := HR9
                    have mb2 : W9.cell? ⟨mb, 2, none⟩ = some (.slice Af fl.length cf) := cell_of_heap HM9.out 2
                    have mb3 : W9.cell? ⟨mb, 3, none⟩ = some (.int .i64 vlg) := cell_of_heap HM9.out 3
                    have mb4 : W9.cell? ⟨mb, 4, none⟩ = some (.int .i64 vnx) := cell_of_heap HM9.out 4
                    have mb5 : W9.cell? ⟨mb, 5, none⟩ = some (.int .u64 vsq) := cell_of_heap HM9.out 5
                    have ee0 := cell_of_heap HE9.out 0
                    have ee1 := cell_of_heap HE9.out 1
                    have ee2 := cell_of_heap HE9.out 2
                    have ee3 := cell_of_heap HE9.out 3
                    have ee4 := cell_of_heap HE9.out 4
                    have hf1 : fl.length ≤ 1000 := HFT.out.1
                    have hap := apply_calls W9.drew (HR9.out.keep (w' := W9.drew) fun _ _ => rfl) (HA9.out.rds.keep (w' := W9.drew) fun _ _ => rfl) (HD9.out.rds.keep (w' := W9.drew) fun _ _ => rfl) (fun q hq => Nat.lt_of_lt_of_le (HBr.out q hq).2.1 HS9.out) HA9.out.lt HD9.out.lt HFT.out.2 HZ3.out (Nat.le_trans hf1 (by omega)) (Nat.le_trans z1 (by omega)) (Nat.le_trans z2 (by omega)) vlg vnx ql qn vsq qs
                    have HAF := Lib.hid (applyR_fit (v := ⟨fl, vlg, vnx, vsq⟩) (e := ⟨qa, qd, ql, qn, qs⟩))
                    generalize applyR ⟨fl, vlg, vnx, vsq⟩ ⟨qa, qd, ql, qn, qs⟩ = AR at hap HLF3 HAF
                    obtain ⟨⟨xl, xlg, xnx, xsq⟩, x2⟩ := AR
                    simp only at hap HLF3 HAF
                    have HAP := Lib.hid hap
                    clear hap
                    go_region_law (first
                      | (go_simp
                         go_at_call 29
                         have hq := HAP.out
                         with_reducible refine hq.mono ?_
                         rintro e w10 ⟨v10, rfl, g1, g2, g3⟩
                         obtain ⟨-, A10, c10, rfl, -⟩ := id g1.rds
                         have HO10 := Lib.hid g1
                         have HB10 := Lib.hid (show RowKit.Below W9.heap.size W9 w10 from ⟨g2.os, g2.tape, g2.output, g2.size, g2.block⟩)
                         have HV10 := Lib.hid (show ∀ k, (Value.slice A10 xl.length c10).ownBlock = some k → W9.heap.size ≤ k from g3)
                         have HM10 := Lib.hid ((HB10.out.block mb (lt_of_heap HM9.out)).trans HM9.out)
                         have nb2 : w10.cell? ⟨mb, 2, none⟩ = some (.slice Af fl.length cf) := cell_of_heap HM10.out 2
                         have nb3 : w10.cell? ⟨mb, 3, none⟩ = some (.int .i64 vlg) := cell_of_heap HM10.out 3
                         have nb4 : w10.cell? ⟨mb, 4, none⟩ = some (.int .i64 vnx) := cell_of_heap HM10.out 4
                         have nb5 : w10.cell? ⟨mb, 5, none⟩ = some (.int .u64 vsq) := cell_of_heap HM10.out 5
                         have fb2 := free_of_heap HM10.out 2
                         have fb3 := free_of_heap HM10.out 3
                         have fb4 := free_of_heap HM10.out 4
                         have fb5 := free_of_heap HM10.out 5
                         clear hq g1 g2 g3))
                    all_goals
                      have HM12 := Lib.hid (show ((((w10.setCell ⟨mb, 2, none⟩ (.slice A10 xl.length c10)).setCell ⟨mb, 3, none⟩ (.int .i64 xlg)).setCell ⟨mb, 4, none⟩ (.int .i64 xnx)).setCell ⟨mb, 5, none⟩ (.int .u64 xsq)).heap[mb]? = some (.cells (manCells d n (.slice A10 xl.length c10) ⟨xl, xlg, xnx, xsq⟩ false) 64 (0, 0)) from
                        heap_setCell_same (heap_setCell_same (heap_setCell_same (heap_setCell_same HM10.out 2 _) 3 _) 4 _) 5 _)
                      have K12 := Lib.hid (show Keep (· = mb) w10 ((((w10.setCell ⟨mb, 2, none⟩ (.slice A10 xl.length c10)).setCell ⟨mb, 3, none⟩ (.int .i64 xlg)).setCell ⟨mb, 4, none⟩ (.int .i64 xnx)).setCell ⟨mb, 5, none⟩ (.int .u64 xsq)) from
                        ((((Keep.refl (· = mb) w10).set _ mb 2 rfl _).set _ mb 3 rfl _).set _ mb 4 rfl _).set _ mb 5 rfl _)
                      have HK12 := Lib.hid (show Keep (· = mb) w7 _ from (HK9.out.trans (Keep.of_below HB10.out)).trans K12.out)
                      have hm9 : mb < W9.heap.size := lt_of_heap HM9.out
                      have h9s : w.heap.size ≤ W9.heap.size := Nat.le_trans HB7.out.size HK9.out.size
                      by_cases hx2 : x2 = 0
                      · have b4 : (x2 != 0) = false := by rw [bne_eq_false_iff_eq]; exact hx2
                        have HLF4 := Lib.hid (HLF3.out.trans (if_neg (by simp [hx2])))
                        have HFT4 := Lib.hid (HAF.out hx2).2
                        clear hx2 HLF3 HAF
                        go_wp2_with fail
                        go_roundw
                        case rel => exact ⟨j + 1, ⟨xl, xlg, xnx, xsq⟩, .slice A10 xl.length c10, by rw [Int.natCast_add]; rfl, by omega, HM12, Lib.hid (HO10.out.rds.keep fun q hq => K12.out.block q (HO10.out.lt q hq) (by have := HV10.out q hq; omega)), Lib.hid (fun q hq => ⟨Nat.le_trans h9s (HV10.out q hq), Nat.lt_of_lt_of_le (HO10.out.lt q hq) K12.out.size, by have := HV10.out q hq; omega⟩), HK12, HFT4, Lib.hid (by rw [HLF.out, HLF4.out])⟩
                        case measure => simp [intOf]; omega
                      · have b4 : (x2 != 0) = true := by rw [bne_iff_ne]; exact hx2
                        have HF := Lib.hid (show R = .inl 12 by rw [HR4.out, HLF.out, HLF3.out, if_pos hx2]; rfl)
                        have HB12 := Lib.hid (HB7.out.trans (HK12.out.below (fun k e => by omega) HB7.out.size))
                        clear hx2 HLF3
                        go_wp2_with fail
                        go_ret2
                        rw [HF.out]
                        exact ⟨HB12.out, rfl⟩
                  · have b3 : (q2 != 0) = true := by rw [bne_iff_ne]; exact hq2
                    have HF := Lib.hid (show R = .inl 12 by rw [HR4.out, HLF.out, HLF2.out, if_pos hq2]; rfl)
                    clear hq2 HLF2
                    go_wp2_with fail
                    go_ret2
                    rw [HF.out]
                    refine ⟨?_, rfl⟩
                    rw [← HW9.out]; exact HB9.out
              · obtain rfl : j = ds.length := by omega
                have HF := Lib.hid (show R = .inr (n, v) by rw [HR4.out, HLF.out, List.drop_length]; rfl)
                have HB9 := Lib.hid (HB7.out.trans (show RowKit.Below w.heap.size w7 wo from HK.out.below (fun k e => by omega) HB7.out.size))
                go_wp2_with fail
                go_ret2
                rw [HF.out]
                exact ⟨HB9.out, mb, fv, rfl, ⟨HMr.out, HRr.out, fun k hk => ⟨(HBr.out k hk).2.1, (HBr.out k hk).2.2⟩⟩, hmb, fun k hk => (HBr.out k hk).1⟩
          · have HF := Lib.hid (show R = .inl 12 by rw [HR3.out, if_pos (by omega)])
            have hz : (((e3 : Int) != 0) = true) ∨ ((((e3 : Int) != 0) = false) ∧ (((ds.length : Int) == 0) = true)) := by
              by_cases h : e3 = 0
              · exact .inr ⟨by rw [bne_eq_false_iff_eq]; omega, by rw [beq_iff_eq]; omega⟩
              · exact .inl (by rw [bne_iff_ne]; omega)
            clear hok HR3
            rcases hz with b1 | ⟨b1, b2⟩
            all_goals
              go_wp2_with fail
              go_ret2
              rw [HF.out]
              exact ⟨HB7.out, rfl⟩
      · have HF := Lib.hid (show R = .inl 12 by rw [HR1.out, if_pos (by omega)])
        have hz : (((e2 : Int) != 0) = true) ∨ ((((e2 : Int) != 0) = false) ∧ (((k2 : Int) != (dt.length : Int)) = true)) ∨ ((((e2 : Int) != 0) = false) ∧ (((k2 : Int) != (dt.length : Int)) = false) ∧ n < 1) ∨ ((((e2 : Int) != 0) = false) ∧ (((k2 : Int) != (dt.length : Int)) = false) ∧ 1 ≤ n ∧ 1073741824 < n) := by
          by_cases h : e2 = 0
          · have h1 : (((e2 : Int) != 0) = false) := by rw [bne_eq_false_iff_eq]; omega
            by_cases h2 : k2 = dt.length
            · have h3 : (((k2 : Int) != (dt.length : Int)) = false) := by rw [bne_eq_false_iff_eq]; omega
              by_cases h4 : n < 1
              · exact .inr (.inr (.inl ⟨h1, h3, h4⟩))
              · exact .inr (.inr (.inr ⟨h1, h3, by omega, by omega⟩))
            · exact .inr (.inl ⟨h1, by rw [bne_iff_ne]; omega⟩)
          · exact .inl (by rw [bne_iff_ne]; omega)
        clear hok HR1
        rcases hz with b1 | ⟨b1, b2⟩ | ⟨b1, b2, b3⟩ | ⟨b1, b2, b3, b4⟩
        all_goals
          go_wp2_with fail
          go_ret2
          rw [HF.out]
          exact ⟨HB2.out, rfl⟩
    · have b1 : ((e1 : Int) != 0) = false := by rw [bne_eq_false_iff_eq]; omega
      have b2 : ((k : Int) != (b.length : Int)) = true := by rw [bne_iff_ne]; omega
      have HF := Lib.hid (HR.out.trans (if_pos (.inr hk)))
      clear HR he1 hk
      go_wp2_with fail
      go_ret2
      rw [HF.out]
      exact ⟨HB2.out, rfl⟩
  · have b1 : ((e1 : Int) != 0) = true := by rw [bne_iff_ne]; omega
    have HF := Lib.hid (HR.out.trans (if_pos (.inl he1)))
    clear HR he1
    go_wp2_with fail
    go_ret2
    rw [HF.out]
    exact ⟨HB2.out, rfl⟩

theorem load_calls (hG : Globs w) (h : DiskIs w d F p) : Calls Tryd.prog 9 #[.pointer (some ⟨d, 0, none⟩)] w fun e w' => LoadOut w d (loadR p) e w' := by
  cases hd : p.down with
  | true => exact load_down h hd
  | false =>
    cases hn : p.fileB nowS with
    | none => exact load_fresh h hd hn
    | some b => exact load_main hG h hd hn

end
end Go.Proofs.YtebkmpgmcldeoaaDoor
