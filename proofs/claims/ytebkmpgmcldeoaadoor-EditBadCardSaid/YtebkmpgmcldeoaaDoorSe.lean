/- SortStableFunc of a slice of files that is owned. -/
import Derived.Test.YtebkmpgmcldeoaaDoorW2
import Derived.Test.YtebkmpgmcldeoaaDoorSd
namespace Go.Proofs.YtebkmpgmcldeoaaDoor
open Go Go.Proofs Go.RowKit Go.Sort
set_option linter.unusedVariables false

/-- what the sort leaves -/
def sortedL (cf : BM → BM → Int) (l : List BM) : List Meta := (stableR (ltOf cf) l.toArray).toList.map (·.1)
theorem sortedL_perm {cf : BM → BM → Int} (hO : SWO (ltOf cf)) (l : List BM) : (sortedL cf l).Perm (l.map (·.1)) := by
  have := (stableR_list hO l.toArray).map (·.1)
  simpa [sortedL] using this
theorem sortedL_length {cf : BM → BM → Int} (hO : SWO (ltOf cf)) (l : List BM) : (sortedL cf l).length = l.length := by
  have := (sortedL_perm hO l).length_eq
  simpa using this

theorem sort_own (w : World) {v : Value} {l : List Meta} (hb : ∀ m ∈ l, 0 ≤ m.num ∧ m.num ≤ 1152921504606846976) (h : Own w 42 5 v l.length (metaV l)) (hlen : l.length ≤ 4294967296)
    (cf : BM → BM → Int) (hO : SWO (ltOf cf)) (g : Nat) (cb : Array Value) (eg : ∀ args w, (callFunc g args).run Tryd.prog w = .ok (.enter g args) w)
    (hcl : ∀ (x y : BM) (W : World), Keep (fun k => v.ownBlock = some k) w W → Calls Tryd.prog g (#[.agg (encB x).toArray, .agg (encB y).toArray] ++ cb) W fun e w' => e = .returned (.int .i64 (cf x y)) ∧ ∃ q os', w' = grow (W.drewN q) os') :
    Calls Tryd.prog 47 #[v, .func (.func g) #[] cb] w fun e w' => e = .returned (.tuple #[]) ∧ ∃ lb : List BM, lb.map (·.1) = l ∧ Own w' 42 5 v l.length (metaV (sortedL cf lb)) ∧ Keep (fun k => v.ownBlock = some k) w w' := by
  obtain ⟨lb, hlb⟩ := lift_list l hb
  have hll : l.length = lb.length := by rw [← hlb]; simp
  rcases Nat.eq_zero_or_pos l.length with h0 | h0
  · have hnil : l = [] := List.eq_nil_of_length_eq_zero h0
    subst hnil
    obtain ⟨A, c, rfl, _⟩ := h.rds.2
    refine (sortStable_none sortP A c _ w).mono ?_
    rintro e w' ⟨rfl, rfl⟩
    refine ⟨rfl, lb, hlb, ?_, Keep.refl _ _⟩
    have : sortedL cf lb = [] := List.eq_nil_of_length_eq_zero (by rw [sortedL_length hO]; simpa using hll.symm)
    rw [this]; exact h
  · have h' := h
    obtain ⟨hx, hv⟩ := h
    rcases hv with ⟨rfl, hz⟩ | ⟨b, cap, cur, rfl, hg, _⟩
    · omega
    · have hown : Own w 42 5 (.slice (some ⟨b, 0, none⟩) lb.length cap) lb.length (lb.flatMap encB) := by rw [encB_metaV, hlb, ← hll]; exact h'
      have hH := own_holds encB encB_len lb hown
      have hR : RowK encB 5 w b 0 lb.toArray := ⟨encB_len, encB_one, hH, lt_of_heap hg⟩
      have hC : CmpLays Tryd.prog g cb encB 5 cf b 0 lb.toArray.size w := fun m os dk hs x y => by
        have hk := (swk_own encB encB_len lb.length cap hown (d := dk) (by simpa using hs) ⟨m, os, rfl⟩).2
        exact hcl x y _ (hk.mono fun k e => by rw [e]; rfl)
      have hcon := sortStable_any sortP encB cf g cb b 0 cap lb.toArray w eg hC hR (by simp; omega)
      rw [hll]
      simp only [List.size_toArray] at hcon
      refine hcon.mono ?_
      rintro e w' ⟨rfl, hS⟩
      have hsz : (stableR (ltOf cf) lb.toArray).size = lb.length := by have := permIn_size (stableR_perm hO lb.toArray); simpa using this
      obtain ⟨k1, k2⟩ := swk_own encB encB_len lb.length cap hown hsz hS
      refine ⟨rfl, lb, hlb, ?_, k2.mono fun k e => by rw [e]; rfl⟩
      rw [encB_metaV] at k1
      exact k1

end Go.Proofs.YtebkmpgmcldeoaaDoor
