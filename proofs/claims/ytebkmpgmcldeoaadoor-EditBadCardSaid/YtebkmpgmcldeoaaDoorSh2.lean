/- Version.Of. -/
import Derived.Test.YtebkmpgmcldeoaaDoorSe
namespace Go.Proofs.YtebkmpgmcldeoaaDoor
open Go Go.Proofs Go.RowKit Go.Sort
set_option linter.unusedVariables false

/-- an element's five cells -/
theorem meta_cells {w : World} {bb oo n c : Nat} {l : List Meta} (h : Rds w 5 (.slice (some ⟨bb, oo, none⟩) n c) n (metaV l)) {j : Nat} (hj : j < l.length) :
    w.cell? ⟨bb, oo + j * 5, none⟩ = some (.int .i64 (l[j]).num) ∧ w.cell? ⟨bb, oo + j * 5 + 1, none⟩ = some (.int .i64 (l[j]).level) ∧ w.cell? ⟨bb, oo + j * 5 + 2, none⟩ = some (.string (l[j]).low) ∧
    w.cell? ⟨bb, oo + j * 5 + 3, none⟩ = some (.string (l[j]).high) ∧ w.cell? ⟨bb, oo + j * 5 + 4, none⟩ = some (.int .i64 (l[j]).size) := by
  obtain ⟨_, A, c', he, _, _, hc⟩ := h
  injection he with he _ _
  subst he
  have hc := (hc _ rfl).2
  have hadd : ∀ i, (Addr.mk bb oo none).add i = ⟨bb, oo + i, none⟩ := fun i => by cases i <;> simp [Addr.add]
  have hget : ∀ (l : List Meta) (j i : Nat) (hj : j < l.length) (hi : i < 5), (metaV l)[j * 5 + i]? = some ((l[j].cells)[i]'(by simpa [Meta.cells] using hi)) := by
    intro l
    induction l with
    | nil => intro j i hj; simp at hj
    | cons a l ih =>
      intro j i hj hi
      have e : metaV (a :: l) = a.cells ++ metaV l := by simp [metaV]
      have hlen : a.cells.length = 5 := rfl
      rw [e]
      cases j with
      | zero => rw [List.getElem?_append_left (by omega)]; simp [hlen, hi]
      | succ j =>
        rw [List.getElem?_append_right (by omega), hlen, show (j + 1) * 5 + i - 5 = j * 5 + i by omega, ih j i (by simpa using hj) hi]
        simp
  have g := fun i hi => hget l j i hj hi
  have f := fun i (hi : i < 5) => hc _ _ (g i hi)
  simp only [hadd] at f
  exact ⟨f 0 (by omega), f 1 (by omega), f 2 (by omega), f 3 (by omega), f 4 (by omega)⟩

end Go.Proofs.YtebkmpgmcldeoaaDoor
