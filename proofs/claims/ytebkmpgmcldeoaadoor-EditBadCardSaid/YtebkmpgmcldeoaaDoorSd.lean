/- The order of a level's files. -/
import Derived.Test.YtebkmpgmcldeoaaDoorSc
import Derived.Sort.Walk0
namespace Go.Proofs.YtebkmpgmcldeoaaDoor
open Go Go.Proofs Go.RowKit Go.Sort
set_option linter.unusedVariables false

def lowCf (x y : BM) : Int := if Op.bytesLess x.1.low.toList y.1.low.toList = true then -1 else if x.1.low.toList == y.1.low.toList then 0 else 1

theorem lowLt (x y : BM) : ltOf lowCf x y = decide (x.1.low.toList < y.1.low.toList) := by
  show decide (lowCf x y < 0) = _
  rw [← bytesLess_eq]
  unfold lowCf
  split
  · rename_i h; rw [h]; rfl
  · rename_i h
    rw [Bool.not_eq_true] at h
    rw [h]
    split <;> rfl
theorem lowSWO : SWO (ltOf lowCf) where
  irrefl x := by rw [lowLt]; simp [List.lt_irrefl]
  trans x y z h1 h2 := by rw [lowLt] at *; simp only [decide_eq_true_eq] at *; exact List.lt_trans h1 h2
  ntrans x y z h1 h2 := by
    rw [lowLt] at *
    simp only [decide_eq_false_iff_not, List.not_lt] at *
    exact List.le_trans h2 h1

set_option maxRecDepth 100000 in
theorem ofCl_calls (lvl : Int) (hl : lvl ≠ 0) (B : Nat) (x y : BM) (W : World) (hc : W.cell? ⟨B, 0, none⟩ = some (.int .i64 lvl)) (hB : B < W.heap.size) : Calls Tryd.prog 85 #[.agg (encB x).toArray, .agg (encB y).toArray, .pointer (some ⟨B, 0, none⟩)] W fun e w' => e = .returned (.int .i64 (lowCf x y)) ∧ ∃ q os', w' = grow (W.drewN q) os' := by
  obtain ⟨⟨xn, xl, xlo, xhi, xs⟩, hx⟩ := x
  obtain ⟨⟨yn, yl, ylo, yhi, ys⟩, hy⟩ := y
  simp only at hx hy
  show Calls Tryd.prog 85 #[.agg #[.int .i64 xn, .int .i64 xl, .string xlo, .string xhi, .int .i64 xs], .agg #[.int .i64 yn, .int .i64 yl, .string ylo, .string yhi, .int .i64 ys], .pointer (some ⟨B, 0, none⟩)] W fun e w' => e = .returned (.int .i64 (lowCf ⟨⟨xn, xl, xlo, xhi, xs⟩, hx⟩ ⟨⟨yn, yl, ylo, yhi, ys⟩, hy⟩)) ∧ ∃ q os', w' = grow (W.drewN q) os'
  have h0 : (lvl == 0) = false := by rw [beq_eq_false_iff_ne]; exact hl
  have hne : B ≠ W.heap.size := by omega
  have hne1 : B ≠ W.heap.size + 1 := by omega
  go_enter Tryd.func85, Tryd.ntmps85
  go_wp2
  · rename_i hlt
    go_ret
    refine ⟨?_, 0, _, by rw [alloc_eq_grow, alloc_eq_grow, grow_grow]; rfl⟩
    unfold lowCf
    simp only [hlt, if_true]; rfl
  · rename_i hlt heq
    go_ret
    refine ⟨?_, 0, _, by rw [alloc_eq_grow, alloc_eq_grow, grow_grow]; rfl⟩
    unfold lowCf
    rw [Bool.not_eq_true'] at heq
    simp only [hlt, heq]; rfl
  · rename_i hlt heq
    go_ret
    refine ⟨?_, 0, _, by rw [alloc_eq_grow, alloc_eq_grow, grow_grow]; rfl⟩
    unfold lowCf
    rw [Bool.not_eq_false'] at heq
    simp only [hlt, heq]; rfl

end Go.Proofs.YtebkmpgmcldeoaaDoor
