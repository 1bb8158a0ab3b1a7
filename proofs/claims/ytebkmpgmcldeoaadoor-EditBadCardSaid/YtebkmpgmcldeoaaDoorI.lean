/- The disk's calls that turn it, on. -/
import Derived.Test.YtebkmpgmcldeoaaDoorH
namespace Go.Proofs.YtebkmpgmcldeoaaDoor
open Go.RowKit
set_option linter.unusedVariables false

section
variable {w : World} {d : Nat} {F : Nat → Prop} {p : PD}

def PD.new (room : Int) : PD := ⟨max 0 (min room 67108864), 0, false, 0, []⟩

set_option maxHeartbeats 400000 in
theorem new_calls (w : World) (room : Int) :
    Calls Tryd.prog 5 #[.int .i64 room] w fun e w' => ∃ d, e = .returned (.pointer (some ⟨d, 0, none⟩)) ∧ DiskIs w' d (fun k => w.heap.size ≤ k ∧ k < w'.heap.size) (PD.new room) ∧ Below w.heap.size w w' := by
  obtain ⟨r, hr⟩ : ∃ r, r = max 0 (min room 67108864) := ⟨_, rfl⟩
  have HD : Hid (DiskAt ((w.alloc (.map #[] 0)).alloc (.cells #[.int .i64 r, .int .i64 0, .map (some w.heap.size), .bool false, .int .i64 0] 53)) (w.heap.size + 1) (fun k => w.heap.size ≤ k ∧ k < w.heap.size + 1 + 1) ⟨r, 0, false, 0, [], w.heap.size, 0⟩) := by
    refine { head := ?_, map := ?_, file := by simp, apart := by simp, footD := by simp, footM := by simp; omega, footF := by simp, used := by simp, room := by simp; omega, fuse := by simp }
    · have := heap_alloc_new (w.alloc (.map #[] 0)) (.cells #[.int .i64 r, .int .i64 0, .map (some w.heap.size), .bool false, .int .i64 0] 53)
      simpa using this
    · show ((w.alloc (.map #[] 0)).alloc _).heap[w.heap.size]? = some (.map (ents (entsOf [])) 0)
      rw [Below.heap_alloc _ _ _ (by simp)]
      exact heap_alloc_new w _
  have HB : Hid (Below w.heap.size w ((w.alloc (.map #[] 0)).alloc (.cells #[.int .i64 r, .int .i64 0, .map (some w.heap.size), .bool false, .int .i64 0] 53))) :=
    ((Below.refl _ _).alloc (Nat.le_refl _) _).alloc (by simp) _
  have HR := Lib.hid hr
  have hm : ∀ W, (Instr.makeMap 51 none).run Tryd.prog W = .ok (.map (some W.heap.size)) (W.alloc (.map #[] 0)) := fun W => by kernel_rfl
  have hif : (if 67108864 < room then (67108864 : Int) else room) = min room 67108864 := by split <;> omega
  clear hr
  go_enter Tryd.func5, Tryd.ntmps5
  go_wp2
  all_goals
    have e : r = max 0 (min room 67108864) := HR.out
    first
      | rw [show max 0 (min room 67108864) = min room 67108864 by omega] at e
      | rw [show max 0 (min room 67108864) = 0 by omega] at e
    have HN : Hid (PD.new room = ⟨r, 0, false, 0, []⟩) := by unfold PD.new; rw [← HR.out]; exact rfl
    rw [e] at HD HB HN
    go_ret
    refine ⟨w.heap.size + 1, rfl, ⟨_, (by have := HD.out; simpa using this), ?_⟩, HB.out⟩
    rw [HN.out]; rfl

theorem Keep.drewN {F : Nat → Prop} {a b : World} (h : Keep F a b) (n : Nat) : Keep F a (b.drewN n) := ⟨h.os, h.tape, h.output, h.size, h.block⟩
theorem Keep.ofDrewN {F : Nat → Prop} {a b : World} {n : Nat} (h : Keep F (a.drewN n) b) : Keep F a b := ⟨h.os, h.tape, h.output, h.size, h.block⟩
theorem DiskAt.drewN {σ : DiskS} (h : DiskAt w d F σ) (n : Nat) : DiskAt (w.drewN n) d F σ := h.keep fun _ _ _ => rfl
theorem DiskIs.drewN (h : DiskIs w d F p) (n : Nat) : DiskIs (w.drewN n) d F p := h.keep fun _ _ _ => rfl
theorem Stp.drewN {w' : World} (h : Stp F d w w' p) (n : Nat) : Stp F d w (w'.drewN n) p := by
  obtain ⟨G, h1, h2, h3⟩ := h
  exact ⟨G, h1.drewN n, h2.drewN n, h3⟩
theorem Stp.ofDrewN {w' : World} {n : Nat} (h : Stp F d (w.drewN n) w' p) : Stp F d w w' p := by
  obtain ⟨G, h1, h2, h3⟩ := h
  exact ⟨G, h1, h2.ofDrewN, h3⟩

/-- The four ways on which a call of a file ends early. -/
theorem find_early {σ : DiskS} (h : DiskAt w d F σ) (s : ByteArray) (hE : σ.pub.findE s ≠ 0) :
    Calls Tryd.prog 20 #[.pointer (some ⟨d, 0, none⟩), .string s] w fun e w' => e = .returned (.tuple #[.pointer none, .int .i64 (σ.pub.findE s)]) ∧ w = w' := by
  unfold PD.findE at *
  cases hd : σ.pub.down with
  | true => simpa using find_down h hd s
  | false =>
    cases hj : σ.pub.at? s with
    | none => simpa using find_miss h hd hj
    | some j => simp [hd, hj] at hE

theorem PD.findE_cases (p : PD) (s : ByteArray) : (p.findE s = 10 ∧ p.down = true) ∨ (p.findE s = 4 ∧ p.down = false ∧ p.at? s = none) ∨ (p.findE s = 0 ∧ p.down = false ∧ ∃ j, p.at? s = some j) := by
  unfold PD.findE
  cases hd : p.down with
  | true => exact .inl ⟨rfl, rfl⟩
  | false =>
    cases hj : p.at? s with
    | none => exact .inr (.inl ⟨rfl, rfl, rfl⟩)
    | some j => exact .inr (.inr ⟨rfl, rfl, j, rfl⟩)

set_option maxHeartbeats 400000 in
set_option maxRecDepth 100000 in
theorem remove_calls (h : DiskIs w d F p) (s : ByteArray) :
    Calls Tryd.prog 53 #[.pointer (some ⟨d, 0, none⟩), .string s] w fun e w' => e = .returned (.int .i64 (p.removeR s).2) ∧ Stp F d w w' (p.removeR s).1 := by
  obtain ⟨σ, h, rfl⟩ := h
  unfold PD.removeR
  cases hd : σ.pub.down with
  | true =>
    have hc := find_down h hd s
    have HS := Lib.hid (Stp.refl ⟨σ, h, rfl⟩)
    clear h hd
    go_enter Tryd.func53, Tryd.ntmps53
    go_wp2_with (go_at_call 20; refine hc.mono ?_; rintro e w' ⟨rfl, rfl⟩)
    go_ret
    exact ⟨rfl, HS.out⟩
  | false =>
    cases hj : σ.pub.at? s with
    | none =>
      have hc := find_miss h hd hj
      have HS := Lib.hid (Stp.refl ⟨σ, h, rfl⟩)
      clear h hd
      go_enter Tryd.func53, Tryd.ntmps53
      go_wp2_with (go_at_call 20; refine hc.mono ?_; rintro e w' ⟨rfl, rfl⟩)
      go_ret
      exact ⟨rfl, HS.out⟩
    | some j =>
      have hc := find_hit h hd hj
      cases hsd : σ.pub.stepped.down with
      | true =>
        have hs := step_off h hsd
        clear h hd
        generalize (σ.files[j]'(DiskAt.at_lt hj)) = f at *
        clear hj hsd
        go_enter Tryd.func53, Tryd.ntmps53
        go_wp2_with fail
        refine hc.mono ?_
        rintro e w' ⟨rfl, rfl⟩
        go_wp2_with fail
        refine hs.mono ?_
        rintro e w1 ⟨rfl, h1⟩
        have HS := Lib.hid h1
        clear h1
        go_wp2
        go_ret
        exact ⟨rfl, HS.out⟩
      | false =>
        have hs := step_on h hsd
        have hlt := DiskAt.at_lt hj
        have HP := Lib.hid (pub_files σ hj)
        have HJ := Lib.hid hj
        clear h hd hsd
        go_enter Tryd.func53, Tryd.ntmps53
        go_wp2_with fail
        refine hc.mono ?_
        rintro e w' ⟨rfl, rfl⟩
        go_wp2_with fail
        refine hs.mono ?_
        rintro e w1 ⟨rfl, τ, h1, hfe, hue, hre, hpe, hk⟩
        have hlt' : j < τ.files.length := by rw [hfe]; exact hlt
        have hfj : τ.files[j]'hlt' = σ.files[j] := by simp only [hfe]
        have hm := List.getElem_mem hlt'
        have hf := h1.file _ hm
        have hle := h1.data_le hm
        have hsum := h1.data_used hm
        rw [hfj] at hf hle hsum
        have hjt : at? s (entsOf τ.files) = some j := by rw [hfe]; exact (DiskAt.at? σ s).trans hj
        generalize σ.files[j] = f at *
        obtain ⟨A, c, hv, hlc, hcm⟩ := hf.2.1.len
        have c0 := cell_of_heap hf.1 0
        have d1 := cell_of_heap h1.head 1
        have d2 := cell_of_heap h1.head 2
        have g1 := free_of_heap h1.head 1
        have hb := h1.room
        have hus := h1.used
        have hw1 : IntKind.i64.wrap (τ.used - (f.data.length : Int)) = τ.used - f.data.length := IntWalk.i64_in _ (by omega)
        have hmap : (w1.setCell ⟨d, 1, none⟩ (.int .i64 (τ.used - f.data.length))).heap[τ.m]? = some (.map (ents (entsOf τ.files)) τ.clock) := by
          rw [heap_setCell_other h1.ne_m]; exact h1.map
        have hdel := fun ty => delete_hit (P := Tryd.prog) (ty := ty) (w := (w1.setCell ⟨d, 1, none⟩ (.int .i64 (τ.used - f.data.length))).drew) tyMap tyStr hmap hjt
        have HD : Hid (DiskAt (ChangeMaps.setBlock (w1.setCell ⟨d, 1, none⟩ (.int .i64 (τ.used - f.data.length))) τ.m (.map (ents ((entsOf τ.files).eraseIdx j)) τ.clock)) d F { τ with files := τ.files.eraseIdx j, used := τ.used - f.data.length }) := by
          refine h1.dropped hlt' ?_ ?_ ?_ (by rw [hfj])
          · rw [heap_setBlock_ne (Ne.symm h1.ne_m)]; exact heap_setCell_same h1.head _ _
          · rw [heap_setBlock_self (lt_of_heap hmap)]; unfold entsOf; rw [ChangeMaps.map_eraseIdx]
          · intro k _ hkd hkm
            rw [heap_setBlock_ne hkm, heap_setCell_other hkd]
        have HK : Hid (Keep F w (ChangeMaps.setBlock (w1.setCell ⟨d, 1, none⟩ (.int .i64 (τ.used - f.data.length))) τ.m (.map (ents ((entsOf τ.files).eraseIdx j)) τ.clock))) :=
          (hk.set _ d 1 h1.footD _).trans (Keep.setBlock _ h1.footM _)
        have HD2 := Lib.hid (HD.out.keep (w' := ChangeMaps.setBlock (w1.setCell ⟨d, 1, none⟩ (.int .i64 (τ.used - f.data.length))).drew τ.m (.map (ents ((entsOf τ.files).eraseIdx j)) τ.clock)) fun _ _ _ => rfl)
        have HK2 := Lib.hid (show Keep F w (ChangeMaps.setBlock (w1.setCell ⟨d, 1, none⟩ (.int .i64 (τ.used - f.data.length))).drew τ.m (.map (ents ((entsOf τ.files).eraseIdx j)) τ.clock)) from ⟨HK.out.os, HK.out.tape, HK.out.output, HK.out.size, HK.out.block⟩)
        have HQ := Lib.hid hpe
        have HU := Lib.hid (show τ.used = σ.pub.used from hue)
        simp only [hv] at c0
        clear h1 hfe hue hre hk hfj hm hf hlt hv hpe hj hjt hmap hus hb hsum hle
        go_wp2
        refine region_tail 12 (by kernel_rfl) (by kernel_rfl) ?_
        simp only [List.take_succ_cons, List.take_zero, List.drop_succ_cons, List.drop_zero]
        repeat still_step
        refine wpStill_nil ?_
        go_wp2
        go_ret
        refine ⟨rfl, F, ⟨_, HD2.out, ?_⟩, HK2.out, fun k hk => .inl hk⟩
        rw [pub_erase, HQ.out, (PD.stepped_files _).1, HU.out, (HP.out).1]
end

end Go.Proofs.YtebkmpgmcldeoaaDoor
