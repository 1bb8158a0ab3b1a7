/- A file is in its bounds. -/
import Derived.Test.YtebkmpgmcldeoaaDoorSc
namespace Go.Proofs.YtebkmpgmcldeoaaDoor
open Go Go.Proofs Go.RowKit Go.Sort
set_option linter.unusedVariables false

/-- is a file in its bounds? -/
def okM (m : Meta) : Bool := decide (1 ≤ m.num ∧ m.num ≤ 1073741824 ∧ 0 ≤ m.level ∧ m.level < 6 ∧ ¬ m.low.toList = [] ∧ (Op.bytesLess m.low.toList m.high.toList = true ∨ m.low.toList = m.high.toList) ∧ (m.low.size : Int) ≤ 128 ∧ (m.high.size : Int) ≤ 128 ∧ 0 ≤ m.size ∧ m.size ≤ 67108864)

set_option maxHeartbeats 1600000 in
set_option maxRecDepth 100000 in
theorem metaCheck_calls (w : World) (m : Meta)  :
    Calls Tryd.prog 65 #[.agg m.cells.toArray] w fun e w' => e = .returned (.bool (okM m)) ∧ ∃ q os', w' = grow (w.drewN q) os' := by
  obtain ⟨n, l, lo, hi, s⟩ := m
  show Calls Tryd.prog 65 #[.agg #[.int .i64 n, .int .i64 l, .string lo, .string hi, .int .i64 s]] w fun e w' => e = .returned (.bool (okM ⟨n, l, lo, hi, s⟩)) ∧ ∃ q os', w' = grow (w.drewN q) os'
  have HB : Hid (∃ q os', w.alloc (.cells #[.int .i64 n, .int .i64 l, .string lo, .string hi, .int .i64 s] 42) = grow (w.drewN q) os') := Lib.hid ⟨0, _, by rw [alloc_eq_grow]; rfl⟩
  obtain ⟨q, hq⟩ : ∃ q, q = okM ⟨n, l, lo, hi, s⟩ := ⟨_, rfl⟩
  rw [← hq]
  have HQ := Lib.hid hq
  clear hq
  go_enter Tryd.func65, Tryd.ntmps65
  go_wp2
  all_goals
    go_ret
    refine ⟨?_, HB.out⟩
    refine congrArg Ending.returned (congrArg Value.bool ?_)
    rw [HQ.out]
    unfold okM
    clear HQ HB
    symm
    first
    | (rw [decide_eq_decide]; constructor <;> intro h <;> simp_all <;> omega)
    | (rw [decide_eq_false_iff_not]; rintro ⟨g1, g2, g3, g4, g5, g6, g7, g8, g9, g10⟩; simp only at *; first | omega | contradiction)
    | (simp only; rw [Bool.eq_iff_iff]; simp; constructor <;> intro h <;> simp_all)

end Go.Proofs.YtebkmpgmcldeoaaDoor
