/- The disk's calls that turn it: the walks. -/
import Derived.Test.YtebkmpgmcldeoaaDoorF
namespace Go.Proofs.YtebkmpgmcldeoaaDoor
open Go.RowKit
set_option linter.unusedVariables false

/-- What a call leaves of a disk. -/
def Stp (F : Nat → Prop) (d : Nat) (w w' : World) (p : PD) : Prop := ∃ G, DiskIs w' d G p ∧ Keep F w w' ∧ ∀ k, G k → F k ∨ w.heap.size ≤ k

section
variable {w : World} {d : Nat} {F : Nat → Prop} {p : PD}

theorem Stp.refl (h : DiskIs w d F p) : Stp F d w w p := ⟨F, h, Keep.refl _ _, fun k hk => .inl hk⟩
theorem Stp.at {σ : DiskS} {w' : World} (h : DiskAt w' d F σ) (hk : Keep F w w') : Stp F d w w' σ.pub := ⟨F, ⟨σ, h, rfl⟩, hk, fun k hk => .inl hk⟩

theorem stepped_down {σ : DiskS} : σ.stepped.down = σ.pub.stepped.down := by rw [← DiskS.pub_stepped]; rfl

/-- Behind the step: off. -/
theorem step_off {σ : DiskS} (h : DiskAt w d F σ) (hd : σ.pub.stepped.down = true) :
    Calls Tryd.prog 21 #[.pointer (some ⟨d, 0, none⟩)] w fun e w' => e = .returned (.int .i64 10) ∧ Stp F d w w' σ.pub.stepped :=
  (step_at h).mono fun e w' ⟨he, h1, h2⟩ => ⟨by rw [he, stepped_down, hd]; rfl, by rw [← DiskS.pub_stepped]; exact .at h1 (h2.mono fun k e => e ▸ h.footD)⟩
/-- Behind the step: on. -/
theorem step_on {σ : DiskS} (h : DiskAt w d F σ) (hd : σ.pub.stepped.down = false) :
    Calls Tryd.prog 21 #[.pointer (some ⟨d, 0, none⟩)] w fun e w' => e = .returned (.int .i64 0) ∧ ∃ τ, DiskAt w' d F τ ∧ τ.files = σ.files ∧ τ.used = σ.used ∧ τ.room = σ.room ∧ τ.pub = σ.pub.stepped ∧ Keep F w w' :=
  (step_at h).mono fun e w' ⟨he, h1, h2⟩ => ⟨by rw [he, stepped_down, hd]; rfl, σ.stepped, h1, (DiskS.files_stepped σ).1, (DiskS.files_stepped σ).2.2.2.2, (DiskS.files_stepped σ).2.2.2.1, DiskS.pub_stepped σ, h2.mono fun k e => e ▸ h.footD⟩

theorem PD.stepped_files (p : PD) : p.stepped.files = p.files ∧ p.stepped.used = p.used ∧ p.stepped.room = p.room := by unfold PD.stepped; split <;> exact ⟨rfl, rfl, rfl⟩
theorem pub_set (τ : DiskS) (j : Nat) (g : FileE) (u : Int) : ({ τ with files := τ.files.set j g, used := u } : DiskS).pub = { τ.pub with files := τ.pub.files.set j (g.name, g.data, g.sure), used := u } := by
  unfold DiskS.pub; simp [List.map_set]
theorem pub_erase (τ : DiskS) (j : Nat) (u : Int) : ({ τ with files := τ.files.eraseIdx j, used := u } : DiskS).pub = { τ.pub with files := τ.pub.files.eraseIdx j, used := u } := by
  unfold DiskS.pub; simp [ChangeMaps.map_eraseIdx]

set_option maxHeartbeats 400000 in
theorem sync_calls (h : DiskIs w d F p) (s : ByteArray) :
    Calls Tryd.prog 38 #[.pointer (some ⟨d, 0, none⟩), .string s] w fun e w' => e = .returned (.int .i64 (p.syncR s).2) ∧ Stp F d w w' (p.syncR s).1 := by
  obtain ⟨σ, h, rfl⟩ := h
  unfold PD.syncR
  cases hd : σ.pub.down with
  | true =>
    have hc := find_down h hd s
    have HS := Lib.hid (Stp.refl ⟨σ, h, rfl⟩)
    clear h hd
    go_enter Tryd.func38, Tryd.ntmps38
    go_wp2_with (go_at_call 20; refine hc.mono ?_; rintro e w' ⟨rfl, rfl⟩)
    go_ret
    exact ⟨rfl, HS.out⟩
  | false =>
    cases hj : σ.pub.at? s with
    | none =>
      have hc := find_miss h hd hj
      have HS := Lib.hid (Stp.refl ⟨σ, h, rfl⟩)
      clear h hd
      go_enter Tryd.func38, Tryd.ntmps38
      go_wp2_with (go_at_call 20; refine hc.mono ?_; rintro e w' ⟨rfl, rfl⟩)
      go_ret
      exact ⟨rfl, HS.out⟩
    | some j =>
      have hc := find_hit h hd hj
      cases hsd : σ.pub.stepped.down with
      | true =>
        have hs := step_off h hsd
        clear h hd
        generalize (σ.files[j]'(DiskAt.at_lt hj)) = f at *
        clear hj hsd
        go_enter Tryd.func38, Tryd.ntmps38
        go_wp2_with fail
        refine hc.mono ?_
        rintro e w' ⟨rfl, rfl⟩
        go_wp2_with fail
        refine hs.mono ?_
        rintro e w1 ⟨rfl, h1⟩
        have HS := Lib.hid h1
        clear h1
        go_wp2
        go_ret
        exact ⟨rfl, HS.out⟩
      | false =>
        have hs := step_on h hsd
        have hlt := DiskAt.at_lt hj
        have HN := Lib.hid (pub_name σ hj)
        have HP := Lib.hid (pub_files σ hj)
        clear h hd hsd
        go_enter Tryd.func38, Tryd.ntmps38
        go_wp2_with fail
        refine hc.mono ?_
        rintro e w' ⟨rfl, rfl⟩
        go_wp2_with fail
        refine hs.mono ?_
        rintro e w1 ⟨rfl, τ, h1, hfe, hue, hre, hpe, hk⟩
        have hlt' : j < τ.files.length := by rw [hfe]; exact hlt
        have hfj : τ.files[j]'hlt' = σ.files[j] := by simp only [hfe]
        have hm := List.getElem_mem hlt'
        have hf := h1.file _ hm
        have hnd := h1.ne_blk hm
        have hF := h1.footF _ hm
        rw [hfj] at hf hnd hF
        generalize σ.files[j] = f at *
        obtain ⟨A, c, hv, hlc, hcm⟩ := hf.2.1.len
        have c0 := cell_of_heap hf.1 0
        have c1 := cell_of_heap hf.1 1
        have f1 := free_of_heap hf.1 1
        have HD : Hid (DiskAt (w1.setCell ⟨f.blk, 1, none⟩ (.int .i64 f.data.length)) d F { τ with files := τ.files.set j { f with sure := f.data.length }, used := τ.used }) := by
          refine h1.turned hlt' (g := { f with sure := f.data.length }) (by rw [heap_setCell_other (Ne.symm hnd)]; exact h1.head) (fun k _ _ hkb _ => heap_setCell_other (by rw [hfj] at hkb; exact hkb) _)
            ⟨heap_setCell_same hf.1 _ _, hf.2.1.keep fun k hkk => heap_setCell_other (hf.2.1.ne (e' := 0) hf.1 (by simp) hkk) _, Nat.le_refl _⟩ (by rw [hfj]) (by rw [hfj]) (by rw [hfj]) (fun k hkk => .inl (by rw [hfj]; exact hkk)) (fun k hk => hk) hF.2 ?_ h1.room.1
          rw [hfj]; simp only; omega
        have HK := Lib.hid (hk.set _ f.blk 1 hF.1 (.int .i64 f.data.length))
        simp only [hv] at c0
        have HQ := Lib.hid hpe
        have HU := Lib.hid (show τ.used = σ.pub.stepped.used by rw [← hpe]; rfl)
        clear h1 hfe hue hre hk hfj hm hf hnd hF hlt hv hpe
        go_wp2
        go_ret
        refine ⟨rfl, F, ⟨_, HD.out, ?_⟩, HK.out, fun k hk => .inl hk⟩
        rw [pub_set, HQ.out, (PD.stepped_files _).1, (HP.out).1]
        simp only [HN.out, HU.out]
end

end Go.Proofs.YtebkmpgmcldeoaaDoor
