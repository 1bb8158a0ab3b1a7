/- The disk's calls that turn it, on: Append, Create. -/
import Derived.Test.YtebkmpgmcldeoaaDoorI
namespace Go.Proofs.YtebkmpgmcldeoaaDoor
open Go.RowKit
set_option linter.unusedVariables false

section
variable {w : World} {d : Nat} {F : Nat → Prop} {p : PD}

theorem pub_append (τ : DiskS) (g : FileE) (c : Nat) : ({ τ with files := τ.files ++ [g], clock := c } : DiskS).pub = { τ.pub with files := τ.pub.files ++ [(g.name, g.data, g.sure)] } := by
  unfold DiskS.pub; simp

set_option maxHeartbeats 800000 in
set_option maxRecDepth 100000 in
theorem append_calls (h : DiskIs w d F p) (s : ByteArray) {x : Value} {b : List UInt8} (hx : RdB w x b) (hxF : ∀ k, x.ownBlock = some k → k < w.heap.size ∧ ¬ F k) (hb63 : b.length ≤ 140737488355328 - 67108864) :
    Calls Tryd.prog 7 #[.pointer (some ⟨d, 0, none⟩), .string s, x] w fun e w' => e = .returned (.int .i64 (p.appendR s b).2) ∧ Stp F d w w' (p.appendR s b).1 := by
  obtain ⟨σ, h, rfl⟩ := h
  have hx0 := hx
  obtain ⟨_, A0, c9, rfl, hcx, _⟩ := hx0
  unfold PD.appendR
  cases hd : σ.pub.down with
  | true =>
    have hc := find_down h hd s
    have HS := Lib.hid (Stp.refl ⟨σ, h, rfl⟩)
    clear h hd hx hxF
    go_enter Tryd.func7, Tryd.ntmps7
    go_wp2_with (go_at_call 20; refine hc.mono ?_; rintro e w' ⟨rfl, rfl⟩)
    go_ret
    exact ⟨rfl, HS.out⟩
  | false =>
    cases hj : σ.pub.at? s with
    | none =>
      have hc := find_miss h hd hj
      have HS := Lib.hid (Stp.refl ⟨σ, h, rfl⟩)
      clear h hd hx hxF
      go_enter Tryd.func7, Tryd.ntmps7
      go_wp2_with (go_at_call 20; refine hc.mono ?_; rintro e w' ⟨rfl, rfl⟩)
      go_ret
      exact ⟨rfl, HS.out⟩
    | some j =>
      have hc := find_hit h hd hj
      have r0 := cell_of_heap h.head 0
      have r1 := cell_of_heap h.head 1
      have hrb := h.room
      have hus := h.used
      have hw1 : IntKind.i64.wrap (σ.room - σ.used) = σ.room - σ.used := IntWalk.i64_in _ (by omega)
      have hroom : σ.pub.room - σ.pub.used = σ.room - σ.used := rfl
      simp only [hroom]
      by_cases hfull : σ.room - σ.used < b.length
      · have HS := Lib.hid (Stp.refl ⟨σ, h, rfl⟩)
        simp only [if_pos hfull, Bool.false_eq_true, if_false]
        clear h hd hx hxF hus hrb hroom
        generalize (σ.files[j]'(DiskAt.at_lt hj)) = f at *
        go_enter Tryd.func7, Tryd.ntmps7
        go_wp2_with fail
        refine hc.mono ?_
        rintro e w' ⟨rfl, rfl⟩
        go_wp2_with fail
        go_quiet (fail)
        go_wp2
        go_ret
        exact ⟨rfl, HS.out.drewN _⟩
      simp only [if_neg hfull, Bool.false_eq_true, if_false]
      cases hsd : σ.pub.stepped.down with
      | true =>
        have hs := fun n => step_off (h.drewN n) hsd
        clear h hd hx hxF hus hrb hroom hsd
        generalize (σ.files[j]'(DiskAt.at_lt hj)) = f at *
        go_enter Tryd.func7, Tryd.ntmps7
        go_wp2_with fail
        refine hc.mono ?_
        rintro e w' ⟨rfl, rfl⟩
        go_wp2_with fail
        go_quiet (fail)
        go_wp2_with fail
        refine (hs _).mono ?_
        rintro e w1 ⟨rfl, h1⟩
        have HS := Lib.hid h1.ofDrewN
        clear h1
        go_wp2
        go_ret
        exact ⟨rfl, HS.out⟩
      | false =>
        have hs := fun n => step_on (h.drewN n) hsd
        have HSD := Lib.hid hsd
        have hlt := DiskAt.at_lt hj
        have HN := Lib.hid (pub_name σ hj)
        have HP := Lib.hid (pub_files σ hj)
        have HX := Lib.hid hx
        have HXF := Lib.hid hxF
        clear h hd hsd hx hxF hus hrb hroom
        go_enter Tryd.func7, Tryd.ntmps7
        go_wp2_with fail
        refine hc.mono ?_
        rintro e w' ⟨rfl, rfl⟩
        go_wp2_with fail
        go_quiet (fail)
        go_wp2_with fail
        refine (hs _).mono ?_
        rintro e w1 ⟨rfl, τ, h1, hfe, hue, hre, hpe, hk0⟩
        have hk := hk0.ofDrewN
        clear hk0
        have hlt' : j < τ.files.length := by rw [hfe]; exact hlt
        have hfj : τ.files[j]'hlt' = σ.files[j] := by simp only [hfe]
        have hm := List.getElem_mem hlt'
        have hf := h1.file _ hm
        have hle := h1.data_le hm
        have hnd := h1.ne_blk hm
        have hF := h1.footF _ hm
        rw [hfj] at hf hle hnd hF
        generalize σ.files[j] = f at *
        obtain ⟨A, c, hv, hlc, hcm⟩ := hf.2.1.len
        have c0 := cell_of_heap hf.1 0
        simp only [hv] at c0
        have HXW := Lib.hid (show RdB w1 (.slice A0 b.length c9) b from HX.out.keeps hk (HXF.out))
        have HOW := Lib.hid (show OwnB w1 (.slice A f.data.length c) f.data by rw [← hv]; exact hf.2.1)
        -- what holds behind the append, whatever it leaves
        have key : ∀ (v' : Value) (w2 : World), OwnB w2 v' (f.data ++ b) → w1.grownBy w2 (Value.slice A f.data.length c).ownBlock → (v'.ownBlock = (Value.slice A f.data.length c).ownBlock ∨ v'.ownBlock = some w1.heap.size) →
            (w2.cell? ⟨f.blk, 0, none⟩ = some (.slice A f.data.length c) ∧ w2.frozen? ⟨f.blk, 0, none⟩ = false) ∧ (w2.cell? ⟨d, 1, none⟩ = some (.int .i64 τ.used) ∧ w2.frozen? ⟨d, 1, none⟩ = false) ∧
            Hid (Stp F d w ((w2.setCell ⟨f.blk, 0, none⟩ v').setCell ⟨d, 1, none⟩ (.int .i64 (τ.used + b.length))) { σ.pub.stepped with files := σ.pub.files.set j (s, σ.pub.dataAt j ++ b, σ.pub.sureAt j), used := σ.pub.used + b.length }) := by
          intro v' w2 ho hg hat
          rw [← hv] at hg hat
          have hne : ∀ k, f.v.ownBlock = some k → k ≠ f.blk ∧ k ≠ d := fun k hkk => ⟨hf.2.1.ne (e' := 0) hf.1 (by simp) hkk, hf.2.1.ne (e' := 0) h1.head (by simp) hkk⟩
          have hb2 : w2.heap[f.blk]? = w1.heap[f.blk]? := hg.block _ (lt_of_heap hf.1) fun e => (hne _ e.symm).1 rfl
          have hd2 : w2.heap[d]? = w1.heap[d]? := hg.block _ h1.lt_d fun e => (hne _ e.symm).2 rfl
          have hbh := hb2.trans hf.1
          have hdh := hd2.trans h1.head
          refine ⟨⟨by rw [cell_of_heap hbh, ← hv]; rfl, free_of_heap hbh 0⟩, ⟨by rw [cell_of_heap hdh]; rfl, free_of_heap hdh 1⟩, ?_⟩
          have hv' : ∀ k, v'.ownBlock = some k → k ≠ f.blk ∧ k ≠ d := fun k hkk => ⟨ho.ne (e' := 0) hbh (by simp) hkk, ho.ne (e' := 0) hdh (by simp) hkk⟩
          refine ⟨fun k => F k ∨ w1.heap.size ≤ k ∧ k < w2.heap.size, ⟨_, h1.turned hlt' (g := { f with v := v', data := f.data ++ b }) (used := τ.used + b.length) (G := fun k => F k ∨ w1.heap.size ≤ k ∧ k < w2.heap.size) ?_ ?_ ?_ (by rw [hfj]) (by rw [hfj]) (by rw [hfj]) ?_ (fun k hk => .inl hk) ?_ ?_ ?_, ?_⟩, ?_, ?_⟩
          · exact heap_setCell_same (by rw [heap_setCell_other (p := ⟨f.blk, 0, none⟩) (Ne.symm hnd) v']; exact hdh) _ _
          · intro k hkl hkd hkb hkv
            rw [hfj] at hkb hkv
            rw [heap_setCell_other hkd, heap_setCell_other hkb]
            exact hg.block k hkl fun e => hkv e.symm
          · refine ⟨?_, ?_, ?_⟩
            · show ((w2.setCell ⟨f.blk, 0, none⟩ v').setCell ⟨d, 1, none⟩ _).heap[f.blk]? = _
              rw [heap_setCell_other hnd]; exact heap_setCell_same hbh _ _
            · exact ho.keep fun k hkk => by rw [heap_setCell_other (hv' k hkk).2, heap_setCell_other (hv' k hkk).1]
            · have := hf.2.2; simp; omega
          · intro k hkk
            rw [hfj]
            rcases hat with e | e
            · exact .inl (e ▸ hkk)
            · rw [e] at hkk; injection hkk with hkk; exact .inr (by omega)
          · intro k hkk
            rcases hat with e | e
            · exact .inl (hF.2 k (e ▸ hkk))
            · exact .inr ⟨by rw [e] at hkk; injection hkk with hkk; omega, ho.lt k hkk⟩
          · rw [hfj]; simp only [List.length_append]; omega
          · have := h1.room; rw [hue, hre]; omega
          · rw [pub_set, hpe, (PD.stepped_files _).1, (HP.out).1, (HP.out).2]
            simp only [HN.out, hue]; rfl
          · refine Keep.set F ((hk.trans (Keep.of_grown hg fun k e => hF.2 k e)).set F f.blk 0 hF.1 _) d 1 h1.footD _
          · rintro k (h | ⟨h, _⟩)
            · exact .inl h
            · have := hk.size; exact .inr (by omega)
        have hw2 : IntKind.i64.wrap (τ.used + b.length) = τ.used + b.length := by
          have := h1.room; have := h1.used
          exact IntWalk.i64_in _ (by omega)
        have KEY := Lib.hid key
        clear key h1 hfe hue hre hk hfj hm hf hlt hnd hF hv hpe hj
        go_wp2_with (at_builtin; go_must (refine append_bytes _ rfl _ _ rfl (v := .slice A f.data.length c) (l := f.data) rfl HOW.out (xv := .slice A0 b.length c9) (m := b) rfl HXW.out (by omega) ?_); intro A' n' c' w2 hn' ho hg hat; obtain ⟨⟨k1, k2⟩, ⟨k3, k4⟩, K5⟩ := KEY.out _ w2 ho hg hat; clear ho hg hat)
        go_ret
        have := K5.out
        rw [HSD.out] at this
        exact ⟨rfl, this⟩
end

end Go.Proofs.YtebkmpgmcldeoaaDoor
