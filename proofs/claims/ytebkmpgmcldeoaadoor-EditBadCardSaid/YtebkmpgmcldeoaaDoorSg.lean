/- slices.Clone of files. -/
import Derived.Test.YtebkmpgmcldeoaaDoorV
namespace Go.Proofs.YtebkmpgmcldeoaaDoor
open Go.RowKit
set_option linter.unusedVariables false

theorem eq_nil (W : World) : Sem.run Tryd.prog (binOp .eql 34 (.slice none 0 0) (.slice none 0 0)) W = .ok (.bool true) W := by
  set_option maxRecDepth 100000 in kernel_rfl
theorem eq_some (a : Addr) (n c : Nat) (W : World) : Sem.run Tryd.prog (binOp .eql 34 (.slice (some a) n c) (.slice none 0 0)) W = .ok (.bool false) W := by
  set_option maxRecDepth 100000 in kernel_rfl
set_option maxRecDepth 100000 in
theorem clone_calls (w : World) {v : Value} {n : Nat} {xs : List Value} (hr : Rds w 5 v n xs) (hv : ∀ k, v.ownBlock = some k → k < w.heap.size) (h1 : ∀ u ∈ xs, u.oneCell' = true) (hl : n ≤ 4294967296) :
    Calls Tryd.prog 31 #[v] w fun e w' => ∃ v', e = .returned v' ∧ Own w' 42 5 v' n xs ∧ Below w.heap.size w w' ∧ ∀ k, v'.ownBlock = some k → w.heap.size ≤ k := by
  obtain ⟨hx, A, c, rfl, hc, hA, hcell⟩ := id hr
  cases A with
  | none =>
    obtain ⟨rfl, rfl⟩ := hA rfl
    have hxs : xs = [] := List.eq_nil_of_length_eq_zero (by simpa using hx)
    subst hxs
    clear hr hcell hA
    have hq := eq_nil
    go_enter Tryd.func31, Tryd.ntmps31
    go_wp2
    go_ret
    exact ⟨_, rfl, Own.nil _ _ _, Below.refl _ _, fun k hk => by cases hk⟩
  | some a =>
    have HR := Lib.hid hr
    clear hr hcell
    have hq := eq_some a n c
    go_enter Tryd.func31, Tryd.ntmps31
    have HO := Lib.hid (Own.made (e := 42) (size := 5) (n := 0) w #[] (by simp) (by unfold maxLen; omega))
    have HS := Lib.hid (HR.out.keep (w' := w.alloc (.cells #[] 42)) fun k hk => Below.heap_alloc _ _ _ (hv k hk))
    have H1 := Lib.hid h1
    clear h1
    go_wp2_with (at_builtin; go_must (refine wpList_append_to _ rfl _ _ 34 rfl 42 5 56 (.agg #[.int .i64 0, .int .i64 0, .string ⟨#[]⟩, .string ⟨#[]⟩, .int .i64 0]) tyMetas info_meta rfl (by decide) (.slice (some ⟨w.heap.size, 0, none⟩) 0 0) 0 [] rfl HO.out (.slice (some a) n c) n xs rfl HS.out H1.out (by unfold maxLen; omega) (by omega) ?_); intro v' w' g1 g2 g3; obtain ⟨A', c', rfl, _⟩ := g1.rds.2)
    go_ret
    refine ⟨_, rfl, by simpa using g1, (((Below.refl w.heap.size w).alloc (Nat.le_refl _) _).trans ((Keep.of_grown (F := fun k => w.heap.size ≤ k) g2 fun k hk => Nat.le_of_eq (Option.some.inj hk)).below (fun _ h => h) (by simp))), fun k hk => ?_⟩
    have hk' : (Value.slice A' (0 + n) c').ownBlock = some k := by rw [Nat.zero_add]; exact hk
    rcases g3 with e | e
    · rw [e] at hk'; exact Nat.le_of_eq (Option.some.inj hk')
    · rw [e] at hk'
      have := Option.some.inj hk'
      simp at this; omega

end Go.Proofs.YtebkmpgmcldeoaaDoor
