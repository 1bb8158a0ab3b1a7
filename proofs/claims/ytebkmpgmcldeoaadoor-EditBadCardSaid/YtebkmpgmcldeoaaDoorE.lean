/- The disk's calls that only read. -/
import Derived.Test.YtebkmpgmcldeoaaDoorD
namespace Go.Proofs.YtebkmpgmcldeoaaDoor
open Go.RowKit
set_option linter.unusedVariables false

namespace PD
def sizeR (p : PD) (s : ByteArray) : Nat × Int := if p.down then (0, 10) else match p.at? s with | none => (0, 4) | some j => ((p.dataAt j).length, 0)
def readR (p : PD) (s : ByteArray) (at_ n : Int) : List UInt8 × Int :=
  if p.down then ([], 10) else match p.at? s with
    | none => ([], 4)
    | some j => if at_ < 0 ∨ at_ > (p.dataAt j).length ∨ n < 0 then ([], 1) else (((p.dataAt j).drop at_.toNat).take n.toNat, 0)
end PD

section
variable {w : World} {d : Nat} {F : Nat → Prop} {p : PD}

set_option maxHeartbeats 400000 in
theorem down_calls (h : DiskIs w d F p) :
    Calls Tryd.prog 32 #[.pointer (some ⟨d, 0, none⟩)] w fun e w' => e = .returned (.bool p.down) ∧ w = w' := by
  obtain ⟨σ, h, rfl⟩ := h
  have c3 := cell_of_heap h.head 3
  clear h
  go_enter Tryd.func32, Tryd.ntmps32
  go_wp2
  go_ret
  exact ⟨rfl, rfl⟩

set_option maxHeartbeats 400000 in
theorem room_calls (h : DiskIs w d F p) :
    Calls Tryd.prog 52 #[.pointer (some ⟨d, 0, none⟩)] w fun e w' => e = .returned (.int .i64 (p.room - p.used)) ∧ ∃ n, w' = w.drewN n := by
  obtain ⟨σ, h, rfl⟩ := h
  have c0 := cell_of_heap h.head 0
  have c1 := cell_of_heap h.head 1
  have hb := h.room
  have hu := h.used
  have hr : 0 ≤ σ.used := by omega
  clear h hu
  go_enter Tryd.func52, Tryd.ntmps52
  go_wp2
  go_quiet (fail)
  go_wp2
  go_ret
  exact ⟨rfl, _, rfl⟩

theorem pub_files (σ : DiskS) {s : ByteArray} {j : Nat} (hj : σ.pub.at? s = some j) : σ.pub.dataAt j = (σ.files[j]'(DiskAt.at_lt hj)).data ∧ σ.pub.sureAt j = (σ.files[j]'(DiskAt.at_lt hj)).sure := by
  have := DiskAt.at_lt hj
  simp [PD.dataAt, PD.sureAt, DiskS.pub, List.getD, this]

theorem DiskAt.data_le {σ : DiskS} (h : DiskAt w d F σ) {f : FileE} (hf : f ∈ σ.files) : f.data.length ≤ 67108864 := by
  have h1 : f.data.length ≤ (σ.files.map fun f => f.data.length).sum := by
    have : ∀ (l : List FileE), f ∈ l → f.data.length ≤ (l.map fun f => f.data.length).sum := by
      intro l
      induction l with
      | nil => intro h; cases h
      | cons a l ih =>
        intro h
        simp only [List.map_cons, List.sum_cons]
        rcases List.mem_cons.1 h with rfl | h
        · omega
        · have := ih h; omega
    exact this _ hf
  have h2 := h.used
  have h3 := h.room
  omega

theorem DiskAt.data_used {σ : DiskS} (h : DiskAt w d F σ) {f : FileE} (hf : f ∈ σ.files) : (f.data.length : Int) ≤ σ.used := by
  have : ∀ (l : List FileE), f ∈ l → f.data.length ≤ (l.map fun f => f.data.length).sum := by
    intro l
    induction l with
    | nil => intro h; cases h
    | cons a l ih =>
      intro h
      simp only [List.map_cons, List.sum_cons]
      rcases List.mem_cons.1 h with rfl | h
      · omega
      · have := ih h; omega
  have h1 := this _ hf
  have h2 := h.used
  omega

/-- The length of an owned slice, whatever its value. -/
theorem Own.len {w : World} {e : TypeId} {size : Nat} {v : Value} {n : Nat} {l : List Value} (h : Own w e size v n l) : ∃ A c, v = .slice A n c ∧ n ≤ c ∧ c ≤ maxLen := by
  rcases h.2 with ⟨rfl, rfl⟩ | ⟨g, cap, cur, rfl, hg, h1, h2, _⟩
  · exact ⟨none, 0, rfl, Nat.le_refl _, by unfold maxLen; omega⟩
  · exact ⟨_, _, rfl, h1, h2⟩

set_option maxHeartbeats 400000 in
theorem size_calls (h : DiskIs w d F p) (s : ByteArray) :
    Calls Tryd.prog 23 #[.pointer (some ⟨d, 0, none⟩), .string s] w fun e w' => e = .returned (.tuple #[.int .i64 (p.sizeR s).1, .int .i64 (p.sizeR s).2]) ∧ w = w' := by
  obtain ⟨σ, h, rfl⟩ := h
  unfold PD.sizeR
  cases hd : σ.pub.down with
  | true =>
    have hc := find_down h hd s
    clear h hd
    go_enter Tryd.func23, Tryd.ntmps23
    go_wp2_with (go_at_call 20; refine hc.mono ?_; rintro e w' ⟨rfl, rfl⟩)
    go_ret2
    exact ⟨rfl, rfl⟩
  | false =>
    cases hj : σ.pub.at? s with
    | none =>
      have hc := find_miss h hd hj
      clear h hd
      go_enter Tryd.func23, Tryd.ntmps23
      go_wp2_with (go_at_call 20; refine hc.mono ?_; rintro e w' ⟨rfl, rfl⟩)
      go_ret2
      exact ⟨rfl, rfl⟩
    | some j =>
      have hc := find_hit h hd hj
      have hl := (pub_files σ hj).1
      have hf := h.file _ (List.getElem_mem (DiskAt.at_lt hj))
      simp only [hl]
      generalize (σ.files[j]'(DiskAt.at_lt hj)) = f at *
      obtain ⟨A, c, hv, _, _⟩ := hf.2.1.len
      have c0 := cell_of_heap hf.1 0
      simp only [hv] at c0
      clear h hd hj hl hf hv
      go_enter Tryd.func23, Tryd.ntmps23
      go_wp2_with (go_at_call 20; refine hc.mono ?_; rintro e w' ⟨rfl, rfl⟩)
      go_ret2
      exact ⟨rfl, rfl⟩
end

end Go.Proofs.YtebkmpgmcldeoaaDoor
