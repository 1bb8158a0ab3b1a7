/- From a slice that is owned to a row that is sorted, and back. -/
import Derived.Test.YtebkmpgmcldeoaaDoorP
namespace Go.Proofs.YtebkmpgmcldeoaaDoor
open Go Go.Proofs Go.RowKit Go.Sort
set_option linter.unusedVariables false
variable {k : Nat} {α : Type} [Inhabited α]

theorem flatK_list (enc : α → List Value) (hk : ∀ x, (enc x).length = k) (l : List α) : (flatK enc k l.toArray).toList = l.flatMap enc := by
  have hlen : (l.flatMap enc).length = l.length * k := by
    induction l with
    | nil => simp
    | cons a l ih => rw [List.flatMap_cons, List.length_append, ih, hk, List.length_cons, Nat.add_mul]; omega
  have hget : ∀ (l : List α) (t : Nat), t < l.length * k → (l.flatMap enc)[t]! = (enc l[t / k]!)[t % k]! := by
    intro l
    induction l with
    | nil => intro t h; simp at h
    | cons a l ih =>
      intro t h
      have k0 : 0 < k := by rcases Nat.eq_zero_or_pos k with e | e; · subst e; simp at h
                            · exact e
      rw [List.flatMap_cons]
      by_cases ht : t < k
      · rw [Nat.div_eq_of_lt ht, Nat.mod_eq_of_lt ht]
        simp [List.getElem!_eq_getElem?_getD, List.getElem?_append, hk, ht]
      · have h1 : (enc a ++ l.flatMap enc)[t]! = (l.flatMap enc)[t - k]! := by
          simp [List.getElem!_eq_getElem?_getD, List.getElem?_append, hk, ht]
        have h2 : t / k = (t - k) / k + 1 := by rw [Nat.div_eq_sub_div k0 (by omega)]
        have h3 : t % k = (t - k) % k := by rw [Nat.mod_eq_sub_mod (by omega)]
        rw [h1, h2, h3, ih (t - k) (by rw [List.length_cons, Nat.add_mul] at h; omega)]
        simp
  refine List.ext_getElem (by simp [hlen]) fun t h1 h2 => ?_
  have ht : t < l.length * k := by simpa using h1
  have e1 := get_flatK enc k l.toArray t (by simpa using ht)
  have e2 := hget l t ht
  rw [List.getElem!_eq_getElem?_getD, List.getElem?_eq_getElem h2] at e2
  simp only [Option.getD_some] at e2
  rw [e2, Array.getElem_toList]
  rw [getElem!_pos (flatK enc k l.toArray) t (by simpa using h1)] at e1
  rw [e1]; simp

theorem own_holds {w : World} {T : TypeId} (enc : α → List Value) (hk : ∀ x, (enc x).length = k) (l : List α) {g cap : Nat} (h : Own w T k (.slice (some ⟨g, 0, none⟩) l.length cap) l.length (l.flatMap enc)) :
    HoldsK enc k w g 0 l.toArray := by
  obtain ⟨h1, h2⟩ := h
  rcases h2 with ⟨h2, _⟩ | ⟨g', cap', cur, hv, hg, hn, hc, hs, ht⟩
  · cases h2
  · injection hv with hv _ _; injection hv with hv; injection hv with hv; subst hv
    intro j hj
    have hj' : j < l.length * k := by simpa using hj
    have hcur : j < cur.size := by
      have : (cur.toList.take (l.length * k)).length = l.length * k := by rw [ht]; exact h1
      rw [List.length_take] at this; simp at this; omega
    refine ⟨?_, free_of_heap hg _⟩
    rw [cell_of_heap hg, Nat.zero_add]
    have hl := flatK_list enc hk l
    rw [← ht] at hl
    have : (flatK enc k l.toArray)[j]! = cur[j] := by
      rw [getElem!_pos _ j hj, ← Array.getElem_toList hj]
      simp only [hl, List.getElem_take, Array.getElem_toList]
    rw [this]; simp [hcur]

theorem swk_own {w0 W : World} {T : TypeId} (enc : α → List Value) (hk : ∀ x, (enc x).length = k) (n cap : Nat) {g : Nat} {xs : List Value} {d : Array α} (h : Own w0 T k (.slice (some ⟨g, 0, none⟩) n cap) n xs)
    (hd : d.size = n) (hS : SWK enc k w0 g 0 d W) : Own W T k (.slice (some ⟨g, 0, none⟩) n cap) n (d.toList.flatMap enc) ∧ Keep (· = g) w0 W := by
  obtain ⟨m, os, rfl⟩ := hS
  have hfl := flatK_list enc hk d.toList
  rw [Array.toArray_toList] at hfl
  have hlen : (d.toList.flatMap enc).length = n * k := by rw [← hfl]; simp [hd]
  obtain ⟨h1, h2⟩ := h
  rcases h2 with ⟨h2, _⟩ | ⟨g', cap', cur, hv, hg, hn, hc, hs, ht⟩
  · cases h2
  · injection hv with hv _ hcc; injection hv with hv; injection hv with hv; subst hv hcc
    have hgl := lt_of_heap hg
    have hB : ∀ i, i < w0.heap.size → (sortWorldK enc k w0 g 0 m d os).heap[i]? = if g = i then (w0.heap[i]?).map (onCells (putCells id 0 (flatK enc k d))) else w0.heap[i]? := by
      intro i hi
      unfold sortWorldK
      rw [heap_grow_old _ _ (by rw [size_putRowK]; exact hi)]
      show (w0.heap.modify g _)[i]? = _
      rw [Array.getElem?_modify]
    have hsz : w0.heap.size ≤ (sortWorldK enc k w0 g 0 m d os).heap.size := size_sortWorldK_c enc k w0 g 0 m d os
    refine ⟨⟨hlen, .inr ⟨g, cap, putCells id 0 (flatK enc k d) cur, rfl, ?_, hn, hc, by simpa [putCells] using hs, ?_⟩⟩, ⟨rfl, rfl, rfl, hsz, fun i hi hne => ?_⟩⟩
    · rw [hB g hgl, if_pos rfl, hg]; rfl
    · have hsc : n * k ≤ cur.size := by
        have : (cur.toList.take (n * k)).length = n * k := by rw [ht]; exact h1
        rw [List.length_take] at this; simp at this; omega
      rw [← hfl]
      refine List.ext_getElem (by simp [putCells, hd, hsc]) fun t h1 h2 => ?_
      have ht : t < d.size * k := by simpa using h2
      simp [putCells, ht]
    · rw [hB i hi, if_neg (fun e => hne e.symm)]

end Go.Proofs.YtebkmpgmcldeoaaDoor
