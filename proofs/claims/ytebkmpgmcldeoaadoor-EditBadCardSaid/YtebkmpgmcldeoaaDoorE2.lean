/- Read. -/
import Derived.Test.YtebkmpgmcldeoaaDoorE
import Derived.StillTailTactics
import Derived.Deep.RegionLaw
namespace Go.Proofs.YtebkmpgmcldeoaaDoor
open Go.RowKit
set_option linter.unusedVariables false
section
variable {w : World} {d : Nat} {F : Nat → Prop} {p : PD}

set_option maxHeartbeats 400000 in
theorem read_err (h : DiskIs w d F p) (s : ByteArray) (i n : Int) (hE : (p.readR s i n).2 ≠ 0) :
    Calls Tryd.prog 24 #[.pointer (some ⟨d, 0, none⟩), .string s, .int .i64 i, .int .i64 n] w fun e w' => e = .returned (.tuple #[.slice none 0 0, .int .i64 (p.readR s i n).2]) ∧ w = w' := by
  obtain ⟨σ, h, rfl⟩ := h
  unfold PD.readR at hE ⊢
  cases hd : σ.pub.down with
  | true =>
    have hc := find_down h hd s
    clear h hd hE
    go_enter Tryd.func24, Tryd.ntmps24
    go_wp2_with (go_at_call 20; refine hc.mono ?_; rintro e w' ⟨rfl, rfl⟩)
    go_ret2
    exact ⟨rfl, rfl⟩
  | false =>
    cases hj : σ.pub.at? s with
    | none =>
      have hc := find_miss h hd hj
      clear h hd hE
      go_enter Tryd.func24, Tryd.ntmps24
      go_wp2_with (go_at_call 20; refine hc.mono ?_; rintro e w' ⟨rfl, rfl⟩)
      go_ret2
      exact ⟨rfl, rfl⟩
    | some j =>
      have hc := find_hit h hd hj
      have hl := (pub_files σ hj).1
      have hf := h.file _ (List.getElem_mem (DiskAt.at_lt hj))
      simp only [hl, hd, hj] at hE ⊢
      generalize (σ.files[j]'(DiskAt.at_lt hj)) = f at *
      obtain ⟨A, c, hv, _, _⟩ := hf.2.1.len
      have c0 := cell_of_heap hf.1 0
      simp only [hv] at c0
      have hx : i < 0 ∨ i > (f.data.length : Int) ∨ n < 0 := by
        by_cases hx : i < 0 ∨ i > (f.data.length : Int) ∨ n < 0
        · exact hx
        · simp [hx] at hE
      simp only [hx, if_true, Bool.false_eq_true, if_false]
      clear h hd hj hl hf hv hE
      by_cases h1 : i < 0
      · clear hx
        go_enter Tryd.func24, Tryd.ntmps24
        go_wp2_with (go_at_call 20; refine hc.mono ?_; rintro e w' ⟨rfl, rfl⟩)
        go_ret2
        exact ⟨rfl, rfl⟩
      · by_cases h2 : (f.data.length : Int) < i
        · clear hx
          go_enter Tryd.func24, Tryd.ntmps24
          go_wp2_with (go_at_call 20; refine hc.mono ?_; rintro e w' ⟨rfl, rfl⟩)
          go_ret2
          exact ⟨rfl, rfl⟩
        · have h3 : n < 0 := by omega
          clear hx
          go_enter Tryd.func24, Tryd.ntmps24
          go_wp2_with (go_at_call 20; refine hc.mono ?_; rintro e w' ⟨rfl, rfl⟩)
          go_ret2
          exact ⟨rfl, rfl⟩


set_option maxHeartbeats 400000 in
set_option maxRecDepth 100000 in
theorem read_ok (h : DiskIs w d F p) (s : ByteArray) (i n : Int) (hE : (p.readR s i n).2 = 0) :
    Calls Tryd.prog 24 #[.pointer (some ⟨d, 0, none⟩), .string s, .int .i64 i, .int .i64 n] w fun e w' => ∃ v, e = .returned (.tuple #[v, .int .i64 0]) ∧ OwnB w' v (p.readR s i n).1 ∧ Below w.heap.size w w' ∧ ∀ k, v.ownBlock = some k → w.heap.size ≤ k := by
  obtain ⟨σ, h, rfl⟩ := h
  unfold PD.readR at hE ⊢
  cases hd : σ.pub.down with
  | true => simp [hd] at hE
  | false =>
    cases hj : σ.pub.at? s with
    | none => simp [hd, hj] at hE
    | some j =>
      have hc := find_hit h hd hj
      have hl := (pub_files σ hj).1
      have hmem := List.getElem_mem (DiskAt.at_lt hj)
      have hf := h.file _ hmem
      simp only [hl, hd, hj] at hE ⊢
      generalize (σ.files[j]'(DiskAt.at_lt hj)) = f at *
      obtain ⟨A, c, hv, hlc, hcm⟩ := hf.2.1.len
      have c0 := cell_of_heap hf.1 0
      simp only [hv] at c0
      have hx : ¬ (i < 0 ∨ i > (f.data.length : Int) ∨ n < 0) := by
        intro hx
        simp [hx] at hE
      simp only [hx, if_false, Bool.false_eq_true, if_false]
      obtain ⟨i, rfl⟩ : ∃ m : Nat, i = m := ⟨i.toNat, by omega⟩
      obtain ⟨n, rfl⟩ : ∃ m : Nat, n = m := ⟨n.toNat, by omega⟩
      have h1 : ¬ ((i : Int) < 0) := by omega
      have h2 : ¬ ((f.data.length : Int) < i) := by omega
      have h3 : ¬ ((n : Int) < 0) := by omega
      have h4 : i ≤ f.data.length := by omega
      unfold maxLen at hcm
      obtain ⟨m, hm⟩ : ∃ m : Nat, m = min n (f.data.length - i) := ⟨_, rfl⟩
      have hw1 : IntKind.i64.wrap ((f.data.length : Int) - i) = ((f.data.length - i : Nat) : Int) := by rw [IntWalk.i64_in _ (by omega)]; omega
      have hw2 : (if f.data.length - i < n then ((f.data.length - i : Nat) : Int) else (n : Int)) = (m : Int) := by split <;> omega
      have hw3 : IntKind.i64.wrap ((i : Int) + m) = ((i + m : Nat) : Int) := by rw [IntWalk.i64_in _ (by omega)]; omega
      have hrd : RdB w (.slice A f.data.length c) f.data := by rw [← hv]; exact hf.2.1.rds
      obtain ⟨x, hsl, hx1, hx2⟩ := hrd.cut_lh i (i + m) (by omega) (by omega)
      rw [show i + m - i = m by omega] at hx1
      simp only [Int.natCast_add] at hsl hw3
      have HE := Lib.hid (show (f.data.drop (i : Int).toNat).take (n : Int).toNat = (f.data.drop i).take m by
        rw [Int.toNat_natCast, Int.toNat_natCast, hm]
        by_cases e : n ≤ f.data.length - i
        · rw [Nat.min_eq_left e]
        · rw [Nat.min_eq_right (by omega), List.take_of_length_le (by simp; omega), List.take_of_length_le (by simp)])
      have HX := Lib.hid hx1
      have hlm : ((f.data.drop i).take m).length ≤ 140737488355328 := by have := h.data_le hmem; simp; omega
      clear h hd hj hl hf hv hE hx hx1 hx2 hrd hm hmem
      go_enter Tryd.func24, Tryd.ntmps24
      go_wp2_with (go_at_call 20; refine hc.mono ?_; rintro e w' ⟨rfl, rfl⟩)
      refine region_tail 17 (by kernel_rfl) (by kernel_rfl) ?_
      simp only [List.take_succ_cons, List.take_zero, List.drop_succ_cons, List.drop_zero]
      repeat still_step
      refine wpStill_nil ?_
      refine append_bytes _ rfl _ _ rfl (v := .slice none 0 0) (l := []) rfl (Own.nil _ _ _) (xv := x) (m := (f.data.drop i).take m) rfl HX.out (by simpa using hlm) ?_
      intro A' n' c' w1 hn' ho hg hat
      have HB := Lib.hid ((Below.refl w.heap.size w).drew.grown hg (Nat.le_refl _) (fun k hk => by cases hk))
      have HO := Lib.hid ho
      have HT := Lib.hid hat
      clear ho hg hat
      go_wp2
      go_ret2
      refine ⟨_, rfl, by rw [HE.out]; exact HO.out, HB.out, fun k hk => ?_⟩
      rcases HT.out with h | h
      · cases h.symm.trans hk
      · have := Option.some.inj (h.symm.trans hk)
        exact Nat.le_of_eq this
end
end Go.Proofs.YtebkmpgmcldeoaaDoor
