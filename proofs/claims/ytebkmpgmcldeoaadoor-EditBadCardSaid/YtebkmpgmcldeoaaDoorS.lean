/- Records that are read. -/
import Derived.Test.YtebkmpgmcldeoaaDoorR
namespace Go.Proofs.YtebkmpgmcldeoaaDoor
open Go.RowKit
set_option linter.unusedVariables false

/-- the record that bytes begin with, how many bytes it has with its head; the error -/
def nextL (b : List UInt8) : List UInt8 × Nat × Nat :=
  if b.length < 12 then ([], 0, 8) else if leN ((b.drop 4).take 4) ≠ chk (b.take 4) ∨ 1048576 < leN (b.take 4) then ([], 0, 12) else
  if b.length < 12 + leN (b.take 4) then ([], 0, 8) else if leN ((b.drop 8).take 4) ≠ chk ((b.drop 12).take (leN (b.take 4))) then ([], 0, 12) else
  ((b.drop 12).take (leN (b.take 4)), 12 + leN (b.take 4), 0)

theorem Calls.same {P : Program} {f : FuncId} {args : Array Value} {w : World} {e0 : Ending} (h : Calls P f args w fun e w' => e = e0 ∧ w = w') : Calls P f args w fun e w' => e = e0 ∧ w' = w :=
  h.mono fun _ _ ⟨h1, h2⟩ => ⟨h1, h2.symm⟩

/-- A part of bytes, whatever kinds its bounds are of. -/
theorem RdB.cut_lhk {w : World} {v : Value} {l : List UInt8} (h : RdB w v l) (lo hi : Nat) (h1 : lo ≤ hi) (h2 : hi ≤ l.length) :
    ∃ v', (∀ (kl kh : IntKind) W, (Instr.slice 22 v (some (.int kl (lo : Int))) (some (.int kh (hi : Int))) none).run Tryd.prog W = .ok v' W) ∧ RdB w v' ((l.drop lo).take (hi - lo)) ∧ v'.ownBlock = v.ownBlock := by
  obtain ⟨v', h3, h4, h5⟩ := h.cut_lh lo hi h1 h2
  refine ⟨v', fun kl kh W => ?_, h4, h5⟩
  rw [← h3 W]
  obtain ⟨_, A, c, rfl, hc, _⟩ := h
  have hT' : Tryd.prog.underlying 22 = some (.slice (Tryd.prog.elem 22)) := by kernel_rfl
  rw [run_slice_lh W _ A _ c hT' kl kh lo hi (by omega) (by omega) (by omega), run_slice_lh W _ A _ c hT' .i64 .i64 lo hi (by omega) (by omega) (by omega)]
theorem RdB.cut_hk {w : World} {v : Value} {l : List UInt8} (h : RdB w v l) (hi : Nat) (h2 : hi ≤ l.length) :
    ∃ v', (∀ (kh : IntKind) W, (Instr.slice 22 v none (some (.int kh (hi : Int))) none).run Tryd.prog W = .ok v' W) ∧ RdB w v' (l.take hi) ∧ v'.ownBlock = v.ownBlock := by
  obtain ⟨v', h3, h4, h5⟩ := h.cut_h hi h2
  refine ⟨v', fun kh W => ?_, h4, h5⟩
  rw [← h3 W]
  obtain ⟨_, A, c, rfl, hc, _⟩ := h
  have hT' : Tryd.prog.underlying 22 = some (.slice (Tryd.prog.elem 22)) := by kernel_rfl
  rw [run_slice_h W _ A _ c hT' kh hi (by omega) (by omega), run_slice_h W _ A _ c hT' .i64 hi (by omega) (by omega)]
theorem RdB.cut_lk {w : World} {v : Value} {l : List UInt8} (h : RdB w v l) (lo : Nat) (h2 : lo ≤ l.length) :
    ∃ v', (∀ (kl : IntKind) W, (Instr.slice 22 v (some (.int kl (lo : Int))) none none).run Tryd.prog W = .ok v' W) ∧ RdB w v' (l.drop lo) ∧ v'.ownBlock = v.ownBlock := by
  obtain ⟨v', h3, h4, h5⟩ := h.cut_l lo h2
  refine ⟨v', fun kl W => ?_, h4, h5⟩
  rw [← h3 W]
  obtain ⟨_, A, c, rfl, hc, _⟩ := h
  have hT' : Tryd.prog.underlying 22 = some (.slice (Tryd.prog.elem 22)) := by kernel_rfl
  rw [run_slice_l W _ A _ c hT' kl lo (by omega) (by omega), run_slice_l W _ A _ c hT' .i64 lo (by omega) (by omega)]

set_option maxHeartbeats 800000 in
set_option maxRecDepth 100000 in
theorem next_calls (w : World) (hG : Glob w) {v : Value} {b : List UInt8} (hr : RdB w v b) (hl : b.length ≤ 140737488355000) :
    Calls Tryd.prog 25 #[v] w fun e w' => ∃ v', e = .returned (.tuple #[v', .int .i64 (nextL b).2.1, .int .i64 (nextL b).2.2]) ∧ OwnB w' v' (nextL b).1 ∧ Below w.heap.size w w' ∧ ∀ k, v'.ownBlock = some k → w.heap.size ≤ k := by
  have HG := Lib.hid hG
  have HR := Lib.hid hr
  obtain ⟨_, A, c, rfl, hc, _⟩ := hr
  by_cases hs : b.length < 12
  · have HF := Lib.hid (show nextL b = ([], 0, 8) by unfold nextL; rw [if_pos hs])
    clear hG
    go_enter Tryd.func25, Tryd.ntmps25
    go_wp2
    go_ret3
    exact ⟨_, by rw [HF.out]; rfl, by rw [HF.out]; exact Own.nil _ _ _, Below.refl _ _, fun k hk => by cases hk⟩
  · obtain ⟨x0, hx0, hr0, _⟩ := HR.out.cut_h 4 (by omega)
    obtain ⟨x1, hx1, hr1, _⟩ := HR.out.cut_lh 4 8 (by omega) (by omega)
    obtain ⟨x2, hx2, hr2, _⟩ := HR.out.cut_lh 8 12 (by omega) (by omega)
    replace hx0 : ∀ W, (Instr.slice 22 (.slice A b.length c) none (some (.int .i64 4)) none).run Tryd.prog W = .ok x0 W := hx0
    replace hx1 : ∀ W, (Instr.slice 22 (.slice A b.length c) (some (.int .i64 4)) (some (.int .i64 8)) none).run Tryd.prog W = .ok x1 W := hx1
    replace hx2 : ∀ W, (Instr.slice 22 (.slice A b.length c) (some (.int .i64 8)) (some (.int .i64 12)) none).run Tryd.prog W = .ok x2 W := hx2
    have HR0 := Lib.hid hr0
    have HR1 := Lib.hid hr1
    have HR2 := Lib.hid hr2
    have l0 : (b.take 4).length = 4 := by simp; omega
    have l1 : ((b.drop 4).take 4).length = 4 := by simp; omega
    have l2 : ((b.drop 8).take 4).length = 4 := by simp; omega
    obtain ⟨n, hn⟩ : ∃ n, n = leN (b.take 4) := ⟨_, rfl⟩
    obtain ⟨c1, hc1⟩ : ∃ c1, c1 = leN ((b.drop 4).take 4) := ⟨_, rfl⟩
    obtain ⟨c2, hc2⟩ : ∃ c2, c2 = chk (b.take 4) := ⟨_, rfl⟩
    obtain ⟨c3, hc3⟩ : ∃ c3, c3 = leN ((b.drop 8).take 4) := ⟨_, rfl⟩
    have hnl : n < 4294967296 := by rw [hn]; have := leN_lt (b.take 4); rw [l0] at this; exact this
    have hc1l : c1 < 4294967296 := by rw [hc1]; have := leN_lt ((b.drop 4).take 4); rw [l1] at this; exact this
    have hc2l : c2 < 4294967296 := by rw [hc2]; exact chk_lt _
    have hc3l : c3 < 4294967296 := by rw [hc3]; have := leN_lt ((b.drop 8).take 4); rw [l2] at this; exact this
    have hc10 : ((4 : Nat) : Int) = 4 := rfl
    have k0 := leN_calls w hr0 (by omega)
    rw [← hn] at k0
    have k1 : ∀ m, Calls Tryd.prog 41 #[x1] (w.drewN m) fun e w' => e = .returned (.int .u64 c1) ∧ w' = w.drewN m := fun m => by
      have := Calls.same (leN_calls (w.drewN m) (v := x1) (l := (b.drop 4).take 4) HR1.out (by omega))
      rw [← hc1] at this; exact this
    have k2 : ∀ m, Calls Tryd.prog 43 #[x0] (w.drewN m) fun e w' => e = .returned (.int .u32 (crcMore 0 (b.take 4))) ∧ w' = w.drewN m := fun m =>
      Calls.same (sum_calls (w.drewN m) (v := x0) (l := b.take 4) HG.out HR0.out (by omega))
    have k3 : ∀ m, Calls Tryd.prog 42 #[.int .u32 (crcMore 0 (b.take 4))] (w.drewN m) fun e w' => e = .returned (.int .u32 c2) ∧ w' = w.drewN m := fun m => by
      have := Calls.same (mask_calls (w.drewN m) _ (crcMore_lt 0 (b.take 4)))
      rw [hc2]; exact this
    have HN := Lib.hid hn
    have HF := Lib.hid (show nextL b = if c1 ≠ c2 ∨ 1048576 < n then ([], 0, 12) else
        if b.length < 12 + n then ([], 0, 8) else if c3 ≠ chk ((b.drop 12).take n) then ([], 0, 12) else ((b.drop 12).take n, 12 + n, 0) by
      unfold nextL; rw [if_neg hs, ← hn, ← hc1, ← hc2, ← hc3])
    have K1 := Lib.hid k1
    have K2 := Lib.hid k2
    have K3 := Lib.hid k3
    clear hr0 hr1 hr2 hn hc1 hc2 hG k1 k2 k3 hc10
    generalize crcMore 0 (b.take 4) = cs at *
    by_cases hcc : c1 = c2
    · have hb1 : ((c1 : Int) != (c2 : Int)) = false := by rw [bne_eq_false_iff_eq]; omega
      have HCC := Lib.hid hcc
      clear hcc
      by_cases hbig : 1048576 < n
      · have HF2 := Lib.hid (show nextL b = ([], 0, 12) by rw [HF.out, if_pos (.inr hbig)])
        clear l0 l1 l2 hc3
        go_enter Tryd.func25, Tryd.ntmps25
        go_wp2_with fail
        refine k0.mono ?_
        rintro e w' ⟨rfl, rfl⟩
        go_wp2_with fail
        go_quiet (first
          | (go_at_call 41; exact Calls.quiet_of_same (K1.out _))
          | (go_at_call 43; exact Calls.quiet_of_same (K2.out _))
          | (go_at_call 42; exact Calls.quiet_of_same (K3.out _)))
        go_wp2
        go_ret3
        exact ⟨_, by rw [HF2.out]; rfl, by rw [HF2.out]; exact Own.nil _ _ _, ⟨rfl, rfl, rfl, Nat.le_refl _, fun _ _ => rfl⟩, fun k hk => by cases hk⟩
      · have hnb : n ≤ 1048576 := by omega
        have hbb : ¬ ((1048576 : Int) < n) := by omega
        have HF2 := Lib.hid (show nextL b = if b.length < 12 + n then ([], 0, 8) else if c3 ≠ chk ((b.drop 12).take n) then ([], 0, 12) else ((b.drop 12).take n, 12 + n, 0) by
          rw [HF.out, if_neg (by rintro (h | h); exact h HCC.out; omega)])
        have hlb : b.length < 140737488355328 := by omega
        by_cases hsh : b.length < 12 + n
        · have HF3 := Lib.hid (show nextL b = ([], 0, 8) by rw [HF2.out, if_pos hsh])
          clear l0 l1 l2 hc3 hbig
          go_enter Tryd.func25, Tryd.ntmps25
          go_wp2_with fail
          refine k0.mono ?_
          rintro e w' ⟨rfl, rfl⟩
          go_wp2_with fail
          go_quiet (first
            | (go_at_call 41; exact Calls.quiet_of_same (K1.out _))
            | (go_at_call 43; exact Calls.quiet_of_same (K2.out _))
            | (go_at_call 42; exact Calls.quiet_of_same (K3.out _)))
          go_wp2
          go_ret3
          exact ⟨_, by rw [HF3.out]; rfl, by rw [HF3.out]; exact Own.nil _ _ _, ⟨rfl, rfl, rfl, Nat.le_refl _, fun _ _ => rfl⟩, fun k hk => by cases hk⟩
        · obtain ⟨x3, hx3, hr3, _⟩ := HR.out.cut_lhk 12 (12 + n) (by omega) (by omega)
          replace hx3 : ∀ W, (Instr.slice 22 (.slice A b.length c) (some (.int .i64 12)) (some (.int .u64 (12 + (n : Int)))) none).run Tryd.prog W = .ok x3 W := fun W => by
            have := hx3 .i64 .u64 W
            rw [Int.natCast_add] at this
            exact this
          have l3 : ((b.drop 12).take n).length = n := by simp; omega
          rw [show 12 + n - 12 = n by omega] at hr3
          have HR3 := Lib.hid hr3
          have HC3 := Lib.hid hc3
          clear hr3 hc3
          go_enter Tryd.func25, Tryd.ntmps25
          go_wp2_with fail
          refine k0.mono ?_
          rintro e w' ⟨rfl, rfl⟩
          go_wp2_with fail
          go_quiet (first
            | (go_at_call 41; exact Calls.quiet_of_same (K1.out _))
            | (go_at_call 43; exact Calls.quiet_of_same (K2.out _))
            | (go_at_call 42; exact Calls.quiet_of_same (K3.out _)))
          go_wp2_with fail
          have q1 := leN_calls (w.drewN nq) (v := x2) (l := (b.drop 8).take 4) HR2.out (by omega)
          rw [← HC3.out] at q1
          refine q1.mono ?_
          rintro e w' ⟨rfl, rfl⟩
          have q2 := sum_calls (w.drewN nq) (v := x3) (l := (b.drop 12).take n) HG.out HR3.out (by omega)
          clear q1
          go_wp2_with fail
          refine q2.mono ?_
          rintro e w' ⟨rfl, rfl⟩
          have q3 := mask_calls (w.drewN nq) _ (crcMore_lt 0 ((b.drop 12).take n))
          obtain ⟨c4, hc4⟩ : ∃ c4, c4 = maskN (crcMore 0 ((b.drop 12).take n)) := ⟨_, rfl⟩
          rw [← hc4] at q3
          have hc4l : c4 < 4294967296 := by rw [hc4]; exact maskN_lt _
          have HF3 := Lib.hid (show nextL b = if c3 ≠ c4 then ([], 0, 12) else ((b.drop 12).take n, 12 + n, 0) by rw [HF2.out, if_neg hsh, hc4]; rfl)
          clear hc4 q2 l0 l1 l2
          go_wp2_with fail
          refine q3.mono ?_
          rintro e w' ⟨rfl, rfl⟩
          clear q3
          by_cases h34 : c3 = c4
          · have hb34 : ((c3 : Int) != (c4 : Int)) = false := by rw [bne_eq_false_iff_eq]; omega
            have HF4 := Lib.hid (show nextL b = ((b.drop 12).take n, 12 + n, 0) by rw [HF3.out, if_neg (by simp [h34])])
            have HL3 := Lib.hid l3
            clear h34 l3
            go_wp2_with (at_builtin; go_must (refine app_bytes _ rfl _ _ rfl (v := .slice none 0 0) (l := []) rfl (Own.nil _ _ _) (xv := x3) (m := (b.drop 12).take n) rfl HR3.out (by rw [HL3.out]; simp; omega) ?_); intro A9 n9 c9 w4 hn9 HA4)
            go_ret3
            refine ⟨_, by rw [HF4.out]; rfl, by rw [HF4.out]; exact HA4.out.1, ?_, fun k hk => ?_⟩
            · have := HA4.out.2.1
              exact ⟨this.os, this.tape, this.output, this.size, fun k hk => this.block k hk (fun e => by cases e)⟩
            · rcases HA4.out.2.2 k hk with e | e
              · cases e
              · exact e
          · have hb34 : ((c3 : Int) != (c4 : Int)) = true := by rw [bne_iff_ne]; omega
            have HF4 := Lib.hid (show nextL b = ([], 0, 12) by rw [HF3.out, if_pos h34])
            clear h34
            go_wp2
            go_ret3
            exact ⟨_, by rw [HF4.out]; rfl, by rw [HF4.out]; exact Own.nil _ _ _, ⟨rfl, rfl, rfl, Nat.le_refl _, fun _ _ => rfl⟩, fun k hk => by cases hk⟩
    · have hb1 : ((c1 : Int) != (c2 : Int)) = true := by rw [bne_iff_ne]; omega
      have HF2 := Lib.hid (show nextL b = ([], 0, 12) by rw [HF.out, if_pos (.inl hcc)])
      clear hcc l0 l1 l2 hc3
      go_enter Tryd.func25, Tryd.ntmps25
      go_wp2_with fail
      refine k0.mono ?_
      rintro e w' ⟨rfl, rfl⟩
      go_wp2_with fail
      go_quiet (first
        | (go_at_call 41; exact Calls.quiet_of_same (K1.out _))
        | (go_at_call 43; exact Calls.quiet_of_same (K2.out _))
        | (go_at_call 42; exact Calls.quiet_of_same (K3.out _)))
      go_wp2
      go_ret3
      exact ⟨_, by rw [HF2.out]; rfl, by rw [HF2.out]; exact Own.nil _ _ _, ⟨rfl, rfl, rfl, Nat.le_refl _, fun _ _ => rfl⟩, fun k hk => by cases hk⟩

end Go.Proofs.YtebkmpgmcldeoaaDoor
