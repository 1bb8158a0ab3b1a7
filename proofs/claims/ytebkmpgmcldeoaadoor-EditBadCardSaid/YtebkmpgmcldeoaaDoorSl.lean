/- Edit.Encode. -/
import Derived.Test.YtebkmpgmcldeoaaDoorSk
import Derived.Test.YtebkmpgmcldeoaaDoorSi
import Derived.Test.YtebkmpgmcldeoaaDoorSh2
import Derived.Deep.RegionHeld3
import Derived.Deep.Cut
import Derived.Deep.CutRange
import Derived.Deep.DeepCutAuto
namespace Go.Proofs.YtebkmpgmcldeoaaDoor
open Go Go.Proofs Go.RowKit Go.Sort
set_option linter.unusedVariables false

def metaL (m : Meta) : List UInt8 := putL m.num.toNat ++ putL m.level.toNat ++ putL m.size.toNat ++ txtL m.low ++ txtL m.high
/-- an edit's bytes -/
def encL (e : EditP) : List UInt8 := putL e.log.toNat ++ putL e.next.toNat ++ putL e.seq ++ putL e.del.length ++ (e.del.flatMap fun n => putL n.toNat) ++ putL e.add.length ++ e.add.flatMap metaL
/-- may a file be written so? -/
def encM (m : Meta) : Prop := 0 ≤ m.num ∧ m.num ≤ 1152921504606846976 ∧ 0 ≤ m.level ∧ m.level ≤ 1152921504606846976 ∧ 0 ≤ m.size ∧ m.size ≤ 1152921504606846976 ∧ m.low.size ≤ 128 ∧ m.high.size ≤ 128

theorem App.ofDrew {w w' : World} {v v' : Value} {l : List UInt8} (h : App w.drew w' v v' l) : App w w' v v' l :=
  ⟨h.1, ⟨h.2.1.os, h.2.1.tape, h.2.1.output, h.2.1.size, h.2.1.block⟩, h.2.2⟩

set_option maxHeartbeats 4000000 in
set_option maxRecDepth 100000 in
theorem encode_calls (w : World) {av dv : Value} {add : List Meta} {del : List Int} (hra : Rds w 5 av add.length (metaV add)) (hrd : Rds w 1 dv del.length (intV del)) (hav : ∀ k, av.ownBlock = some k → k < w.heap.size) (hdv : ∀ k, dv.ownBlock = some k → k < w.heap.size)
    (lg nx sq : Nat) (h1 : lg ≤ 1152921504606846976) (h2 : nx ≤ 1152921504606846976) (h3 : sq ≤ 1152921504606846976) (hd : ∀ n ∈ del, 0 ≤ n ∧ n ≤ 1152921504606846976) (ha : ∀ m ∈ add, encM m) (hdl : del.length ≤ 1000000) (hal : add.length ≤ 1000000) :
    Calls Tryd.prog 35 #[.agg #[av, dv, .int .i64 lg, .int .i64 nx, .int .u64 sq]] w fun e w' => ∃ v', e = .returned v' ∧ OwnB w' v' (encL ⟨add, del, lg, nx, sq⟩) ∧ RowKit.Below w.heap.size w w' ∧ ∀ k, v'.ownBlock = some k → w.heap.size ≤ k := by
  obtain ⟨-, A, c, rfl, hc, hA, -⟩ := id hra
  obtain ⟨-, Ad, cd, rfl, hcd, hAd, -⟩ := id hrd
  have HRA := Lib.hid hra
  have HRD := Lib.hid hrd
  have HAV := Lib.hid hav
  have HDV := Lib.hid hdv
  have HDB := Lib.hid hd
  have HAB := Lib.hid ha
  clear hra hrd hav hdv hd ha
  obtain ⟨W0, hW0⟩ : ∃ x, x = w.alloc (.cells #[.slice A add.length c, .slice Ad del.length cd, .int .i64 lg, .int .i64 nx, .int .u64 sq] 46) := ⟨_, rfl⟩
  have HW0 := Lib.hid hW0
  have HB0 := Lib.hid (show RowKit.Below w.heap.size w W0 by rw [hW0]; exact (Below.refl _ _).alloc (Nat.le_refl _) _)
  have HE0 := Lib.hid (show W0.heap[w.heap.size]? = some (.cells #[.slice A add.length c, .slice Ad del.length cd, .int .i64 lg, .int .i64 nx, .int .u64 sq] 46 (0, 0)) by rw [hW0]; exact heap_alloc_new w _)
  clear hW0
  have hWl : w.heap.size < W0.heap.size := lt_of_heap HE0.out
  have hp1 := putL_len10 (n := lg) (by omega)
  have hp2 := putL_len10 (n := nx) (by omega)
  have hp3 := putL_len10 (n := sq) (by omega)
  have c2 := cell_of_heap HE0.out 2
  have c3 := cell_of_heap HE0.out 3
  have c4 := cell_of_heap HE0.out 4
  have hw1 : IntKind.u64.wrap (lg : Int) = (lg : Int) := by rw [IntKind.wrap_u64]; omega
  have hw2 : IntKind.u64.wrap (nx : Int) = (nx : Int) := by rw [IntKind.wrap_u64]; omega
  go_enter Tryd.func35, Tryd.ntmps35
  go_upto_region 1 with fail
  rw [← HW0.out]
  go_cut [3] (fun s3 wx => Hid (App W0 wx (.slice none 0 0) s3 (putL lg ++ putL nx ++ putL sq)))
  case first =>
    go_region_held3 (fun w' => w'.cell? ⟨w.heap.size, 2, none⟩ = some (.int .i64 lg) ∧ w'.cell? ⟨w.heap.size, 3, none⟩ = some (.int .i64 nx) ∧ w'.cell? ⟨w.heap.size, 4, none⟩ = some (.int .u64 sq))
      (first | go_keep | exact ⟨cell_of_heap EA.out 2, cell_of_heap EA.out 3, cell_of_heap EA.out 4⟩ | exact ⟨cell_of_heap EB.out 2, cell_of_heap EB.out 3, cell_of_heap EB.out 4⟩ | exact ⟨cell_of_heap EC.out 2, cell_of_heap EC.out 3, cell_of_heap EC.out 4⟩)
      (first
        | (go_at_call 51
           have hq := put_calls W0.drew (show OwnB _ (.slice none 0 0) [] from Own.nil _ _ _) lg (by omega) (by simp)
           with_reducible refine hq.mono ?_
           rintro e wA ⟨vA, rfl, aA⟩
           have PA := Lib.hid (show App W0 wA (.slice none 0 0) vA (putL lg) from aA.ofDrew)
           have EA := Lib.hid ((PA.out.2.1.block w.heap.size hWl (fun h => by cases h)).trans HE0.out)
           clear aA hq)
        | (go_at_call 51
           have hq := put_calls wA (show OwnB wA vA (putL lg) from PA.out.1) nx (by omega) (by omega)
           with_reducible refine hq.mono ?_
           rintro e wB ⟨vB, rfl, aB⟩
           have PB := Lib.hid (show App W0 wB (.slice none 0 0) vB (putL lg ++ putL nx) from PA.out.trans aB)
           have EB := Lib.hid ((PB.out.2.1.block w.heap.size hWl (fun h => by cases h)).trans HE0.out)
           clear aB hq)
        | (go_at_call 51
           have hq := put_calls wB (show OwnB wB vB (putL lg ++ putL nx) from PB.out.1) sq (by omega) (by rw [List.length_append]; omega)
           with_reducible refine hq.mono ?_
           rintro e wC ⟨vC, rfl, aC⟩
           have PC := Lib.hid (show App W0 wC (.slice none 0 0) vC (putL lg ++ putL nx ++ putL sq) from PB.out.trans aC)
           have EC := Lib.hid ((PC.out.2.1.block w.heap.size hWl (fun h => by cases h)).trans HE0.out)
           clear aC hq))
    all_goals
      go_wp2_with fail
      go_meet
      case rel => exact PC
  case rest =>
  have PC := hcut
  have EC := Lib.hid ((PC.out.2.1.block w.heap.size hWl (fun h => by cases h)).trans HE0.out)
  have hw3 : IntKind.u64.wrap (del.length : Int) = (del.length : Int) := by rw [IntKind.wrap_u64]; omega
  have hw4 : IntKind.u64.wrap (add.length : Int) = (add.length : Int) := by rw [IntKind.wrap_u64]; omega
  have hp4 := putL_len10 (n := del.length) (by omega)
  have hp5 := putL_len10 (n := add.length) (by omega)
  have HLC := Lib.hid (show (putL lg ++ putL nx ++ putL sq).length ≤ 30 by simp only [List.length_append]; omega)
  obtain ⟨b3, hb3⟩ : ∃ x, x = putL lg ++ putL nx ++ putL sq := ⟨_, rfl⟩
  rw [← hb3] at PC HLC
  have HB3 := Lib.hid hb3
  have hl3 := HLC.out
  clear hb3 hcut hw1 hw2 c2 c3 c4
  have cC0 := cell_of_heap EC.out 0
  have cC1 := cell_of_heap EC.out 1
  go_wp2_with fail
  refine (put_calls _ (show OwnB _ u3 b3 from PC.out.1) del.length (by omega) (by omega)).mono ?_
  rintro e wD ⟨vD, rfl, aD⟩
  have PD := Lib.hid (show App W0 wD (.slice none 0 0) vD (b3 ++ putL del.length) from PC.out.trans aD)
  have ED := Lib.hid ((PD.out.2.1.block w.heap.size hWl (fun h => by cases h)).trans HE0.out)
  clear aD cC0 cC1 EC
  have cD1 := cell_of_heap ED.out 1
  go_wp2_with fail
  clear cD1
  go_loopw [3, 30, 5] (fun b i _ wr => ∃ (j : Nat) (acc : List UInt8), i = .int .i64 j ∧ j ≤ del.length ∧ Hid (App W0 wr (.slice none 0 0) b acc) ∧ acc.length ≤ 50 + 10 * j ∧ Hid (acc = b3 ++ putL del.length ++ (del.take j).flatMap fun n => putL n.toNat)) (fun _ i _ _ => del.length - (intOf i).toNat)
  case atStart => exact ⟨0, b3 ++ putL del.length, rfl, Nat.zero_le _, PD, by rw [List.length_append]; omega, Lib.hid (by simp)⟩
  case round =>
    obtain ⟨j, acc, rfl, hj, HP, hal9, HAC⟩ := hrel
    by_cases hlt : j < del.length
    · cases Ad with
      | none => have := (hAd rfl).1; omega
      | some a =>
        obtain ⟨-, A', c', he, -, -, hcc⟩ := HRD.out
        simp only [Value.slice.injEq] at he
        obtain ⟨he, -, -⟩ := he
        obtain ⟨hsp, hcc⟩ := hcc a he.symm
        have hbk := HDV.out a.block rfl
        have hcell : wr.cell? (a.add j) = some (.int .i64 del[j]) := by
          have h1 := hcc j (.int .i64 del[j]) (by simp [intV, hlt])
          rw [← h1]
          have h2 : (a.add j).block = a.block := add_block a j
          have h3 : wr.heap[(a.add j).block]? = w.heap[(a.add j).block]? := by
            rw [h2]; exact (HP.out.2.1.block a.block (by omega) (fun h => by cases h)).trans (HB0.out.block a.block hbk)
          exact World.cell?_of_block h3
        have hdx := HDB.out del[j] (List.getElem_mem hlt)
        obtain ⟨x, hx⟩ : ∃ x : Nat, del[j] = (x : Int) := ⟨del[j].toNat, by omega⟩
        have HT := Lib.hid (show (del.take (j + 1)).flatMap (fun n => putL n.toNat) = (del.take j).flatMap (fun n => putL n.toNat) ++ putL x by
          rw [List.take_succ_eq_append_getElem hlt, hx]; simp)
        rw [hx] at hcell hdx
        obtain ⟨bb, oo, ss⟩ := a
        simp only at hsp
        subst hsp
        replace hcell : wr.cell? ⟨bb, oo + j, none⟩ = some (.int .i64 (x : Int)) := by
          have : (Addr.mk bb oo none).add j = ⟨bb, oo + j, none⟩ := by cases j <;> simp [Addr.add]
          rw [← this]; exact hcell
        have hwx : IntKind.u64.wrap (x : Int) = (x : Int) := by rw [IntKind.wrap_u64]; omega
        have hpx := putL_len10 (n := x) (by omega)
        clear hx hcc he hAd
        go_wp2_with fail
        refine (put_calls _ (show OwnB _ u3 acc from HP.out.1) x (by omega) (by omega)).mono ?_
        rintro e wX ⟨vX, rfl, aX⟩
        have PX := Lib.hid (show App W0 wX (.slice none 0 0) vX (acc ++ putL x) from HP.out.trans aX)
        clear aX hcell
        go_wp2_with fail
        go_roundw
        case rel => exact ⟨j + 1, acc ++ putL x, by rw [Int.natCast_add]; rfl, by omega, PX, by rw [List.length_append]; omega, Lib.hid (by rw [HAC.out, HT.out]; simp)⟩
        case measure => simp [intOf]; omega
    · obtain rfl : j = del.length := by omega
      have HAC' := Lib.hid (show acc = b3 ++ putL del.length ++ del.flatMap fun n => putL n.toNat by rw [HAC.out, List.take_length])
      have EX := Lib.hid ((HP.out.2.1.block w.heap.size hWl (fun h => by cases h)).trans HE0.out)
      have cX0 := cell_of_heap EX.out 0
      obtain ⟨b5, hb5⟩ : ∃ x, x = acc ++ putL add.length := ⟨_, rfl⟩
      have hb5l : b5.length ≤ 60 + 10 * del.length := by rw [hb5, List.length_append]; omega
      have HB5 := Lib.hid hb5
      clear hb5 HAC PC PD
      go_wp2_with fail
      refine (put_calls _ (show OwnB _ u3 acc from HP.out.1) add.length (by omega) (by omega)).mono ?_
      rintro e wX ⟨vX, rfl, aX⟩
      have PX := Lib.hid (show App W0 wX (.slice none 0 0) vX b5 by rw [HB5.out]; exact HP.out.trans aX)
      have EY := Lib.hid ((PX.out.2.1.block w.heap.size hWl (fun h => by cases h)).trans HE0.out)
      clear aX cX0
      have cY0 := cell_of_heap EY.out 0
      go_wp2_with fail
      clear cY0
      go_loopw [3, 49, 7] (fun b i _ wr => ∃ (j : Nat) (acc : List UInt8), i = .int .i64 j ∧ j ≤ add.length ∧ Hid (App W0 wr (.slice none 0 0) b acc) ∧ acc.length ≤ b5.length + 400 * j ∧ Hid (acc = b5 ++ (add.take j).flatMap metaL)) (fun _ i _ _ => add.length - (intOf i).toNat)
      case atStart => exact ⟨0, b5, rfl, Nat.zero_le _, PX, by omega, Lib.hid (by simp)⟩
      case round =>
        clear HP EX PX EY hlt
        obtain ⟨bv, hbv⟩ : ∃ x, x = u3 := ⟨_, rfl⟩
        subst hbv
        obtain ⟨j, acc, rfl, hj, HP, hac, HAC⟩ := hrel
        by_cases hlt : j < add.length
        · cases A with
          | none => have := (hA rfl).1; omega
          | some a =>
            obtain ⟨bb, oo, ss⟩ := a
            have hsp : ss = none := by obtain ⟨-, A', c', he, -, -, hcc⟩ := HRA.out; injection he with he _ _; exact (hcc _ he.symm).1
            subst hsp
            have hRw : Rds wr 5 (.slice (some ⟨bb, oo, none⟩) add.length c) add.length (metaV add) := HRA.out.keep fun q hq => (HP.out.2.1.block q (by have := HAV.out q hq; omega) (fun h => by cases h)).trans (HB0.out.block q (HAV.out q hq))
            obtain ⟨c0, c1, c2, c3, c4⟩ := meta_cells hRw hlt
            have hdx := HAB.out add[j] (List.getElem_mem hlt)
            obtain ⟨m, hm⟩ : ∃ m, m = add[j] := ⟨_, rfl⟩
            rw [← hm] at c0 c1 c2 c3 c4 hdx
            have HT := Lib.hid (show (add.take (j + 1)).flatMap metaL = (add.take j).flatMap metaL ++ metaL m by
              rw [List.take_succ_eq_append_getElem hlt, ← hm]; simp)
            obtain ⟨m0, m1, m2, m3, m4⟩ := m
            obtain ⟨d1, d2, d3, d4, d5, d6, d7, d8⟩ := hdx
            simp only at c0 c1 c2 c3 c4 d1 d2 d3 d4 d5 d6 d7 d8
            obtain ⟨n0, rfl⟩ : ∃ n : Nat, m0 = n := ⟨m0.toNat, by omega⟩
            obtain ⟨n1, rfl⟩ : ∃ n : Nat, m1 = n := ⟨m1.toNat, by omega⟩
            obtain ⟨n4, rfl⟩ : ∃ n : Nat, m4 = n := ⟨m4.toNat, by omega⟩
            have HML := Lib.hid (show metaL ⟨n0, n1, m2, m3, n4⟩ = putL n0 ++ putL n1 ++ putL n4 ++ txtL m2 ++ txtL m3 from rfl)
            have q0 := putL_len10 (n := n0) (by omega)
            have q1 := putL_len10 (n := n1) (by omega)
            have q4 := putL_len10 (n := n4) (by omega)
            have q2 := txtL_length m2 d7
            have q3 := txtL_length m3 d8
            have z0 : IntKind.u64.wrap (n0 : Int) = (n0 : Int) := by rw [IntKind.wrap_u64]; omega
            have z1 : IntKind.u64.wrap (n1 : Int) = (n1 : Int) := by rw [IntKind.wrap_u64]; omega
            have z4 : IntKind.u64.wrap (n4 : Int) = (n4 : Int) := by rw [IntKind.wrap_u64]; omega
            obtain ⟨W1, hW1⟩ : ∃ x, x = wr.alloc (.cells #[.int .i64 n0, .int .i64 n1, .string m2, .string m3, .int .i64 n4] 42) := ⟨_, rfl⟩
            have HM1 := Lib.hid (show W1.heap[wr.heap.size]? = some (.cells #[.int .i64 n0, .int .i64 n1, .string m2, .string m3, .int .i64 n4] 42 (0, 0)) by rw [hW1]; exact heap_alloc_new wr _)
            have hM1 : wr.heap.size < W1.heap.size := lt_of_heap HM1.out
            have HW1 := Lib.hid hW1
            have HOW1 := Lib.hid (show OwnB W1 bv acc by rw [hW1]; exact HP.out.1.keep fun q hq => Below.heap_alloc _ _ _ (HP.out.1.lt q hq))
            have hneM : ¬ (bv.ownBlock = some wr.heap.size) := fun h => by have := HP.out.1.lt _ h; omega
            clear hRw hm hW1 hA
            go_upto_region 12 with fail
            clear c0 c1 c2 c3 c4
            rw [← HW1.out]
            have e0 := cell_of_heap HM1.out 0
            have e1 := cell_of_heap HM1.out 1
            have e2 := cell_of_heap HM1.out 2
            have e3 := cell_of_heap HM1.out 3
            have e4 := cell_of_heap HM1.out 4
            go_cut [3] (fun s3 wx => Hid (App W1 wx bv s3 (acc ++ putL n0 ++ putL n1 ++ putL n4)))
            case first =>
              go_region_held3 (fun w' => w'.cell? ⟨wr.heap.size, 0, none⟩ = some (.int .i64 n0) ∧ w'.cell? ⟨wr.heap.size, 1, none⟩ = some (.int .i64 n1) ∧ w'.cell? ⟨wr.heap.size, 4, none⟩ = some (.int .i64 n4))
                (first | go_keep | exact ⟨cell_of_heap EA.out 0, cell_of_heap EA.out 1, cell_of_heap EA.out 4⟩ | exact ⟨cell_of_heap EB.out 0, cell_of_heap EB.out 1, cell_of_heap EB.out 4⟩ | exact ⟨cell_of_heap EC.out 0, cell_of_heap EC.out 1, cell_of_heap EC.out 4⟩)
                (first
              | (go_at_call 51
                 have hq := put_calls W1.drew (show OwnB W1.drew bv acc from HOW1.out) n0 (by omega) (by omega)
                 with_reducible refine hq.mono ?_
                 rintro e wA ⟨vA, rfl, aA⟩
                 have PA := Lib.hid (show App W1 wA bv vA (acc ++ putL n0) from aA.ofDrew)
                 have EA := Lib.hid ((PA.out.2.1.block wr.heap.size hM1 (hneM)).trans HM1.out)
                 clear aA hq)
              | (go_at_call 51
                 have hq := put_calls wA (show OwnB wA vA (acc ++ putL n0) from PA.out.1) n1 (by omega) (by rw [List.length_append]; omega)
                 with_reducible refine hq.mono ?_
                 rintro e wB ⟨vB, rfl, aB⟩
                 have PB := Lib.hid (show App W1 wB bv vB (acc ++ putL n0 ++ putL n1) from PA.out.trans aB)
                 have EB := Lib.hid ((PB.out.2.1.block wr.heap.size hM1 (hneM)).trans HM1.out)
                 clear aB hq)
              | (go_at_call 51
                 have hq := put_calls wB (show OwnB wB vB (acc ++ putL n0 ++ putL n1) from PB.out.1) n4 (by omega) (by simp only [List.length_append]; omega)
                 with_reducible refine hq.mono ?_
                 rintro e wC ⟨vC, rfl, aC⟩
                 have PC := Lib.hid (show App W1 wC bv vC (acc ++ putL n0 ++ putL n1 ++ putL n4) from PB.out.trans aC)
                 have EC := Lib.hid ((PC.out.2.1.block wr.heap.size hM1 (hneM)).trans HM1.out)
                 clear aC hq))
              all_goals
                go_wp2_with fail
                go_meet
                case rel => exact PC
            case rest =>
            have PC := hcut
            have EC := Lib.hid ((PC.out.2.1.block wr.heap.size hM1 hneM).trans HM1.out)
            clear e0 e1 e2 e3 e4 hcut z0 z1 z4
            have f2 := cell_of_heap EC.out 2
            have f3 := cell_of_heap EC.out 3
            go_upto_region 13 with fail
            go_region_held3 (fun w' => w'.cell? ⟨wr.heap.size, 2, none⟩ = some (.string m2) ∧ w'.cell? ⟨wr.heap.size, 3, none⟩ = some (.string m3))
              (first | go_keep | exact ⟨cell_of_heap ED.out 2, cell_of_heap ED.out 3⟩ | exact ⟨cell_of_heap EE.out 2, cell_of_heap EE.out 3⟩)
              (first
            | (go_at_call 58
               have hq := textL_calls wc.drew (show OwnB wc.drew u3 (acc ++ putL n0 ++ putL n1 ++ putL n4) from PC.out.1) m2 (by omega) (by simp only [List.length_append]; omega)
               with_reducible refine hq.mono ?_
               rintro e wD ⟨vD, rfl, aD⟩
               have PD := Lib.hid (show App W1 wD bv vD (acc ++ putL n0 ++ putL n1 ++ putL n4 ++ txtL m2) from PC.out.trans aD.ofDrew)
               have ED := Lib.hid ((PD.out.2.1.block wr.heap.size hM1 (hneM)).trans HM1.out)
               clear aD hq)
            | (go_at_call 58
               have hq := textL_calls wD (show OwnB wD vD (acc ++ putL n0 ++ putL n1 ++ putL n4 ++ txtL m2) from PD.out.1) m3 (by omega) (by simp only [List.length_append]; omega)
               with_reducible refine hq.mono ?_
               rintro e wE ⟨vE, rfl, aE⟩
               have PE := Lib.hid (show App W1 wE bv vE (acc ++ putL n0 ++ putL n1 ++ putL n4 ++ txtL m2 ++ txtL m3) from PD.out.trans aE)
               have EE := Lib.hid ((PE.out.2.1.block wr.heap.size hM1 (hneM)).trans HM1.out)
               clear aE hq))
            all_goals
              go_wp2_with fail
              go_roundw
              case rel => exact ⟨j + 1, acc ++ putL n0 ++ putL n1 ++ putL n4 ++ txtL m2 ++ txtL m3, by rw [Int.natCast_add]; rfl, by omega, Lib.hid (HP.out.trans (App.alloc _ (HW1.out ▸ PE.out) HP.out.1.lt)), by simp only [List.length_append]; omega, Lib.hid (by rw [HT.out, HML.out, HAC.out]; simp)⟩
              case measure => simp [intOf]; omega
        · obtain rfl : j = add.length := by omega
          have HF := Lib.hid (show acc = encL ⟨add, del, lg, nx, sq⟩ by
            rw [HAC.out, HB5.out, HAC'.out, HB3.out, List.take_length]
            unfold encL
            simp)
          go_wp2_with fail
          go_ret
          refine ⟨_, rfl, HF.out ▸ HP.out.1, HB0.out.trans (HP.out.2.1.below (fun k hk => by cases hk) (by omega)), fun k hk => (HP.out.2.2 k hk).elim (fun h => by cases h) fun h => by omega⟩

end Go.Proofs.YtebkmpgmcldeoaaDoor
