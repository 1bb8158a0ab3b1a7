/- The two orders in which files are sorted. -/
import Derived.Test.YtebkmpgmcldeoaaDoorSb
namespace Go.Proofs.YtebkmpgmcldeoaaDoor
open Go Go.Proofs Go.RowKit Go.Sort
set_option linter.unusedVariables false

/-- a file whose number does not grow beyond bounds -/
abbrev BM : Type := { m : Meta // 0 ≤ m.num ∧ m.num ≤ 1152921504606846976 }
instance : Inhabited BM := ⟨⟨⟨0, 0, ⟨#[]⟩, ⟨#[]⟩, 0⟩, by decide⟩⟩
def encB (m : BM) : List Value := m.1.cells
theorem encB_len (m : BM) : (encB m).length = 5 := rfl
theorem encB_one (m : BM) : ∀ v ∈ encB m, v.oneCell' = true := by
  intro v hv
  simp [encB, Meta.cells] at hv
  rcases hv with rfl | rfl | rfl | rfl | rfl <;> rfl
theorem lift_list : ∀ (l : List Meta), (∀ m ∈ l, 0 ≤ m.num ∧ m.num ≤ 1152921504606846976) → ∃ l' : List BM, l'.map (·.1) = l
  | [], _ => ⟨[], rfl⟩
  | a :: l, h => by
    obtain ⟨l', hl⟩ := lift_list l fun m hm => h m (List.mem_cons_of_mem _ hm)
    exact ⟨⟨a, h a List.mem_cons_self⟩ :: l', by simp [hl]⟩
theorem encB_metaV (l : List BM) : l.flatMap encB = metaV (l.map (·.1)) := by
  induction l with
  | nil => rfl
  | cons a l ih => rw [List.flatMap_cons, ih]; simp [metaV, encB]

def numCf (x y : BM) : Int := x.1.num - y.1.num
theorem numLt (x y : BM) : ltOf numCf x y = decide (x.1.num - y.1.num < 0) := rfl
theorem numSWO : SWO (ltOf numCf) where
  irrefl x := by rw [numLt, decide_eq_false_iff_not]; omega
  trans x y z h1 h2 := by rw [numLt, decide_eq_true_eq] at *; omega
  ntrans x y z h1 h2 := by rw [numLt, decide_eq_false_iff_not] at *; omega

set_option maxRecDepth 100000 in
theorem applyCl_calls (x y : BM) (W : World) : Calls Tryd.prog 48 #[.agg (encB x).toArray, .agg (encB y).toArray] W fun e w' => e = .returned (.int .i64 (numCf x y)) ∧ ∃ q os', w' = grow (W.drewN q) os' := by
  obtain ⟨⟨xn, xl, xlo, xhi, xs⟩, hx⟩ := x
  obtain ⟨⟨yn, yl, ylo, yhi, ys⟩, hy⟩ := y
  simp only at hx hy
  show Calls Tryd.prog 48 #[.agg #[.int .i64 xn, .int .i64 xl, .string xlo, .string xhi, .int .i64 xs], .agg #[.int .i64 yn, .int .i64 yl, .string ylo, .string yhi, .int .i64 ys]] W fun e w' => e = .returned (.int .i64 (xn - yn)) ∧ ∃ q os', w' = grow (W.drewN q) os'
  have hw : IntKind.i64.wrap (xn - yn) = xn - yn := by rw [IntKind.wrap_i64]; omega
  go_enter Tryd.func48, Tryd.ntmps48
  go_wp2
  go_ret
  exact ⟨rfl, 0, _, by rw [alloc_eq_grow, alloc_eq_grow, grow_grow]; rfl⟩

end Go.Proofs.YtebkmpgmcldeoaaDoor
