/- slices.Contains of numbers. -/
import Derived.Test.YtebkmpgmcldeoaaDoorV
namespace Go.Proofs.YtebkmpgmcldeoaaDoor
open Go.RowKit
set_option linter.unusedVariables false

def idxL : List Int → Int → Nat → Int
  | [], _, _ => -1
  | a :: l, x, i => if x = a then (i : Int) else idxL l x (i + 1)
theorem idxL_contains (x : Int) : ∀ (l : List Int) (i : Nat), decide (idxL l x i ≥ 0) = l.contains x
  | [], i => by simp [idxL]
  | a :: l, i => by
    unfold idxL
    split
    · rename_i h; subst h; simp
    · rename_i h; rw [idxL_contains x l (i + 1)]; simp [h]

set_option maxRecDepth 100000 in
theorem index_calls (w : World) {v : Value} {ds : List Int} (hr : Rds w 1 v ds.length (intV ds)) (x : Int) (hl : ds.length ≤ 4294967296) :
    Calls Tryd.prog 63 #[v, .int .i64 x] w fun e w' => e = .returned (.int .i64 (idxL ds x 0)) ∧ w = w' := by
  obtain ⟨_, A, c, rfl, hc, hA, hcell⟩ := hr
  have HCC := Lib.hid hcell
  clear hcell
  go_enter Tryd.func63, Tryd.ntmps63
  go_wp2
  go_loop [8] (fun i => ∃ j : Nat, i = .int .i64 j ∧ j ≤ ds.length ∧ Hid (idxL ds x 0 = idxL (ds.drop j) x j)) (fun i => ds.length - (intOf i).toNat)
  case atStart => exact ⟨0, rfl, Nat.zero_le _, Lib.hid (by simp)⟩
  case round =>
    obtain ⟨j, rfl, hj, HE⟩ := hrel
    by_cases hlt : j < ds.length
    · cases A with
      | none => have := (hA rfl).1; omega
      | some a =>
        obtain ⟨hsp, hcc⟩ := HCC.out a rfl
        have hget : (intV ds)[j]? = some (.int .i64 ds[j]) := by simp [intV, hlt]
        have hcj := hcc j _ hget
        obtain ⟨y, hy⟩ : ∃ y, y = ds[j] := ⟨_, rfl⟩
        rw [← hy] at hcj
        have HD := Lib.hid (show idxL (ds.drop j) x j = if x = y then (j : Int) else idxL (ds.drop (j + 1)) x (j + 1) by rw [List.drop_eq_getElem_cons hlt, idxL, hy])
        obtain ⟨bb, oo, ss⟩ := a
        simp only at hsp
        subst hsp
        replace hcj : w.cell? ⟨bb, oo + j, none⟩ = some (.int .i64 y) := by
          have : (Addr.mk bb oo none).add j = ⟨bb, oo + j, none⟩ := by cases j <;> simp [Addr.add]
          rw [← this]; exact hcj
        clear hcc hget hy HCC
        by_cases hxy : x = y
        · have HF := Lib.hid (show idxL ds x 0 = j by rw [HE.out, HD.out, if_pos hxy])
          have hb : (x == y) = true := by rw [beq_iff_eq]; exact hxy
          clear hxy
          go_wp2
          go_ret
          exact ⟨by rw [HF.out]; rfl, rfl⟩
        · have HF := Lib.hid (show idxL ds x 0 = idxL (ds.drop (j + 1)) x (j + 1) by rw [HE.out, HD.out, if_neg hxy])
          have hb : (x == y) = false := by rw [beq_eq_false_iff_ne]; exact hxy
          clear hxy
          go_wp2
          go_round
          case rel => exact ⟨j + 1, by rw [Int.natCast_add]; rfl, by omega, HF⟩
          case measure => simp [intOf]; omega
    · have HF := Lib.hid (show idxL ds x 0 = -1 by rw [HE.out, List.drop_eq_nil_of_le (by omega)]; rfl)
      go_wp2
      go_ret
      exact ⟨by rw [HF.out]; rfl, rfl⟩

set_option maxRecDepth 100000 in
theorem contains_calls (w : World) {v : Value} {ds : List Int} (hr : Rds w 1 v ds.length (intV ds)) (x : Int) (hl : ds.length ≤ 4294967296) :
    Calls Tryd.prog 46 #[v, .int .i64 x] w fun e w' => e = .returned (.bool (ds.contains x)) ∧ w = w' := by
  have hcon := index_calls w hr x hl
  have HI := Lib.hid (idxL_contains x ds 0)
  obtain ⟨r, hrr⟩ : ∃ r, r = idxL ds x 0 := ⟨_, rfl⟩
  rw [← hrr] at hcon HI
  obtain ⟨q, hq⟩ : ∃ q, q = ds.contains x := ⟨_, rfl⟩
  rw [← hq] at HI ⊢
  obtain ⟨_, A, c, rfl, _⟩ := hr
  clear hrr hq
  go_enter Tryd.func46, Tryd.ntmps46
  go_wp2_with fail
  refine hcon.mono ?_
  rintro e w' ⟨rfl, rfl⟩
  go_wp2
  go_ret
  exact ⟨by rw [← HI.out]; simp, rfl⟩

end Go.Proofs.YtebkmpgmcldeoaaDoor
