/- The disk's calls that turn it: what they leave. -/
import Derived.Test.YtebkmpgmcldeoaaDoorE2
namespace Go.Proofs.YtebkmpgmcldeoaaDoor
open Go.RowKit
set_option linter.unusedVariables false

namespace PD
def okByte (c : UInt8) : Bool := (97 ≤ c && c ≤ 122) || (48 ≤ c && c ≤ 57) || c == 46
def named (s : ByteArray) : Bool := s.data.toList.all okByte && decide (0 < s.size) && decide (s.size ≤ 40)
def createR (p : PD) (s : ByteArray) : PD × Int :=
  if named s = false then (p, 1) else if p.down then (p, 10) else match p.at? s with
    | some _ => (p, 5)
    | none => if p.stepped.down then (p.stepped, 10) else ({ p.stepped with files := p.files ++ [(s, [], 0)] }, 0)
def appendR (p : PD) (s : ByteArray) (b : List UInt8) : PD × Int :=
  if p.down then (p, 10) else match p.at? s with
    | none => (p, 4)
    | some j => if p.room - p.used < b.length then (p, 11) else if p.stepped.down then (p.stepped, 10) else
      ({ p.stepped with files := p.files.set j (s, p.dataAt j ++ b, p.sureAt j), used := p.used + b.length }, 0)
def syncR (p : PD) (s : ByteArray) : PD × Int :=
  if p.down then (p, 10) else match p.at? s with
    | none => (p, 4)
    | some j => if p.stepped.down then (p.stepped, 10) else ({ p.stepped with files := p.files.set j (s, p.dataAt j, (p.dataAt j).length) }, 0)
def removeR (p : PD) (s : ByteArray) : PD × Int :=
  if p.down then (p, 10) else match p.at? s with
    | none => (p, 4)
    | some j => if p.stepped.down then (p.stepped, 10) else ({ p.stepped with files := p.files.eraseIdx j, used := p.used - (p.dataAt j).length }, 0)
def renameR (p : PD) (s t : ByteArray) : PD × Int :=
  if named t = false then (p, 1) else if p.down then (p, 10) else match p.at? s with
    | none => (p, 4)
    | some j => if p.stepped.down then (p.stepped, 10) else if s = t then (p.stepped, 0) else match p.at? t with
      | some i => ({ p.stepped with files := (p.files.set i (t, p.dataAt j, p.sureAt j)).eraseIdx j, used := p.used - (p.dataAt i).length }, 0)
      | none => ({ p.stepped with files := (p.files ++ [(t, p.dataAt j, p.sureAt j)]).eraseIdx j }, 0)
end PD

section
variable {w : World} {d : Nat} {F : Nat → Prop} {σ : DiskS}

theorem pub_name (σ : DiskS) {s : ByteArray} {j : Nat} (hj : σ.pub.at? s = some j) : (σ.files[j]'(DiskAt.at_lt hj)).name = s := by
  unfold PD.at? at hj
  obtain ⟨h1, h2, _⟩ := List.findIdx?_eq_some_iff_getElem.1 hj
  simpa [DiskS.pub] using h2

/-- Two files of a disk at two places are apart. -/
theorem DiskAt.two (h : DiskAt w d F σ) {i j : Nat} (hi : i < σ.files.length) (hj : j < σ.files.length) (hij : i ≠ j) : (σ.files[i]).name ≠ (σ.files[j]).name ∧ (σ.files[i]).blk ≠ (σ.files[j]).blk ∧ ∀ k, (σ.files[i]).v.ownBlock = some k → (σ.files[j]).v.ownBlock ≠ some k := by
  have hp := List.pairwise_iff_getElem.1 h.apart
  rcases Nat.lt_or_gt_of_ne hij with hl | hl
  · obtain ⟨h1, h2, h3⟩ := hp i j hi hj hl
    refine ⟨h1, h2, fun k hk e => ?_⟩
    rcases h3 with h3 | h3
    · rw [h3] at hk; cases hk
    · exact h3 (hk.trans e.symm)
  · obtain ⟨h1, h2, h3⟩ := hp j i hj hi hl
    refine ⟨fun e => h1 e.symm, fun e => h2 e.symm, fun k hk e => ?_⟩
    rcases h3 with h3 | h3
    · rw [h3] at e; cases e
    · exact h3 (e.trans hk.symm)

theorem sum_set (l : List FileE) (j : Nat) (hj : j < l.length) (g : FileE) :
    ((l.set j g).map fun f => f.data.length).sum + (l[j]).data.length = (l.map fun f => f.data.length).sum + g.data.length := by
  induction l generalizing j with
  | nil => cases hj
  | cons a l ih =>
    cases j with
    | zero => simp; omega
    | succ j =>
      have := ih j (by simpa using hj)
      simp only [List.set_cons_succ, List.map_cons, List.sum_cons, List.getElem_cons_succ]
      omega

/-- One file's struct and array turn, and the disk's own block. -/
theorem DiskAt.turned (h : DiskAt w d F σ) {j : Nat} (hj : j < σ.files.length) {g : FileE} {w' : World} {used : Int} {G : Nat → Prop}
    (hh : w'.heap[d]? = some (.cells #[.int .i64 σ.room, .int .i64 used, .map (some σ.m), .bool σ.down, .int .i64 σ.fuse] 53 (0, 0)))
    (hk : ∀ k, k < w.heap.size → k ≠ d → k ≠ (σ.files[j]).blk → (σ.files[j]).v.ownBlock ≠ some k → w'.heap[k]? = w.heap[k]?)
    (hg : FileAt w' g) (hn : g.name = (σ.files[j]).name) (hb : g.blk = (σ.files[j]).blk) (hbo : g.born = (σ.files[j]).born)
    (hv : ∀ k, g.v.ownBlock = some k → (σ.files[j]).v.ownBlock = some k ∨ w.heap.size ≤ k)
    (hG : ∀ k, F k → G k) (hGv : ∀ k, g.v.ownBlock = some k → G k)
    (hu : used = σ.used + g.data.length - (σ.files[j]).data.length) (hr : used ≤ σ.room) :
    DiskAt w' d G { σ with files := σ.files.set j g, used := used } := by
  have hmj : σ.files[j] ∈ σ.files := List.getElem_mem hj
  have hset : ∀ f, f ∈ σ.files.set j g → f = g ∨ ∃ i, ∃ hi : i < σ.files.length, i ≠ j ∧ f = σ.files[i] := by
    intro f hf
    obtain ⟨i, hi, rfl⟩ := List.getElem_of_mem hf
    rw [List.length_set] at hi
    by_cases e : j = i
    · subst e; left; simp
    · right; exact ⟨i, hi, fun e' => e e'.symm, by rw [List.getElem_set_ne e]⟩
  have hold : ∀ i (hi : i < σ.files.length), i ≠ j → FileAt w' (σ.files[i]) := by
    intro i hi hij
    have hm := List.getElem_mem hi
    obtain ⟨_, h2, h3⟩ := h.two hi hj hij
    refine (h.file _ hm).keep (hk _ (h.lt_blk hm) (h.ne_blk hm) h2 fun e => (h.ne_arr_blk hmj hm e) rfl) fun k hkk => hk k ((h.file _ hm).2.1.lt k hkk) (h.ne_arr_d hm hkk) (h.ne_arr_blk hm hmj hkk) fun e => h3 k hkk e
  refine { head := hh, map := ?_, file := ?_, apart := ?_, footD := hG _ h.footD, footM := hG _ h.footM, footF := ?_, used := ?_, room := ⟨hr, h.room.2⟩, fuse := h.fuse }
  · have e : entsOf (σ.files.set j g) = entsOf σ.files := by
      unfold entsOf
      rw [List.map_set, hn, hb, hbo]
      have : (σ.files[j].name, σ.files[j].blk, σ.files[j].born) = (σ.files.map fun f => (f.name, f.blk, f.born))[j]'(by simpa using hj) := by simp
      rw [this, List.set_getElem_self]
    show w'.heap[σ.m]? = some (.map (ents (entsOf (σ.files.set j g))) σ.clock)
    rw [e, hk _ h.lt_m h.ne_m (fun e => h.ne_blk_m hmj e.symm) (fun e => h.ne_arr_m hmj e rfl)]
    exact h.map
  · intro f hf
    rcases hset f hf with rfl | ⟨i, hi, hij, rfl⟩
    · exact hg
    · exact hold i hi hij
  · show (σ.files.set j g).Pairwise ApartF
    rw [List.pairwise_iff_getElem]
    intro i k hi hk' hik
    rw [List.length_set] at hi hk'
    have key : ∀ m (hm : m < σ.files.length), m ≠ j → (σ.files[m]).name ≠ g.name ∧ (σ.files[m]).blk ≠ g.blk ∧ ∀ q, (σ.files[m]).v.ownBlock = some q → g.v.ownBlock ≠ some q := by
      intro m hm hmj'
      obtain ⟨h1, h2, h3⟩ := h.two hm hj hmj'
      refine ⟨by rw [hn]; exact h1, by rw [hb]; exact h2, fun q hq e => ?_⟩
      rcases hv q e with e' | e'
      · exact h3 q hq e'
      · have := (h.file _ (List.getElem_mem hm)).2.1.lt q hq; omega
    by_cases e1 : j = i
    · subst e1
      have hne : j ≠ k := by omega
      obtain ⟨h1, h2, h3⟩ := key k hk' (by omega)
      rw [List.getElem_set_self, List.getElem_set_ne hne]
      refine ⟨fun e => h1 e.symm, fun e => h2 e.symm, ?_⟩
      cases hgv : g.v.ownBlock with
      | none => exact .inl rfl
      | some q => exact .inr fun e => h3 q e.symm hgv
    · by_cases e2 : j = k
      · subst e2
        obtain ⟨h1, h2, h3⟩ := key i hi (by omega)
        rw [List.getElem_set_self, List.getElem_set_ne e1]
        refine ⟨h1, h2, ?_⟩
        cases hgv : (σ.files[i]).v.ownBlock with
        | none => exact .inl rfl
        | some q => exact .inr fun e => h3 q hgv e.symm
      · rw [List.getElem_set_ne e1, List.getElem_set_ne e2]
        exact List.pairwise_iff_getElem.1 h.apart i k hi hk' hik
  · intro f hf
    rcases hset f hf with rfl | ⟨i, hi, hij, rfl⟩
    · exact ⟨hG _ (by rw [hb]; exact (h.footF _ hmj).1), hGv⟩
    · exact ⟨hG _ (h.footF _ (List.getElem_mem hi)).1, fun k hk => hG _ ((h.footF _ (List.getElem_mem hi)).2 k hk)⟩
  · have h1 := sum_set σ.files j hj g
    have h2 := h.used
    show used = (((σ.files.set j g).map fun f => f.data.length).sum : Nat)
    omega

/-- A file goes out of the map. -/
theorem DiskAt.dropped (h : DiskAt w d F σ) {j : Nat} (hj : j < σ.files.length) {w' : World} {used : Int}
    (hh : w'.heap[d]? = some (.cells #[.int .i64 σ.room, .int .i64 used, .map (some σ.m), .bool σ.down, .int .i64 σ.fuse] 53 (0, 0)))
    (hm : w'.heap[σ.m]? = some (.map (ents (entsOf (σ.files.eraseIdx j))) σ.clock))
    (hk : ∀ k, k < w.heap.size → k ≠ d → k ≠ σ.m → w'.heap[k]? = w.heap[k]?)
    (hu : used = σ.used - (σ.files[j]).data.length) : DiskAt w' d F { σ with files := σ.files.eraseIdx j, used := used } := by
  have hsub : (σ.files.eraseIdx j).Sublist σ.files := List.eraseIdx_sublist _ _
  have hmem : ∀ f, f ∈ σ.files.eraseIdx j → f ∈ σ.files := fun f hf => hsub.subset hf
  have hsum : (σ.files.map fun f => f.data.length).sum = ((σ.files.eraseIdx j).map fun f => f.data.length).sum + (σ.files[j]).data.length := by
    have : ∀ (l : List FileE) (j : Nat) (hj : j < l.length), (l.map fun f => f.data.length).sum = ((l.eraseIdx j).map fun f => f.data.length).sum + (l[j]).data.length := by
      intro l
      induction l with
      | nil => intro j hj; cases hj
      | cons a l ih =>
        intro j hj
        cases j with
        | zero => simp; omega
        | succ j =>
          have := ih j (by simpa using hj)
          simp only [List.eraseIdx_cons_succ, List.map_cons, List.sum_cons, List.getElem_cons_succ]
          omega
    exact this _ _ hj
  have h2 := h.used
  have h3 := h.room
  refine { head := hh, map := hm, file := ?_, apart := h.apart.sublist hsub, footD := h.footD, footM := h.footM, footF := fun f hf => h.footF f (hmem f hf), used := ?_, room := ⟨?_, h.room.2⟩, fuse := h.fuse }
  · intro f hf
    have hf := hmem f hf
    exact (h.file f hf).keep (hk _ (h.lt_blk hf) (h.ne_blk hf) (h.ne_blk_m hf)) fun k hkk => hk k ((h.file f hf).2.1.lt k hkk) (h.ne_arr_d hf hkk) (h.ne_arr_m hf hkk)
  · show used = (((σ.files.eraseIdx j).map fun f => f.data.length).sum : Nat)
    omega
  · show used ≤ σ.room
    omega

/-- A new file. -/
theorem DiskAt.created (h : DiskAt w d F σ) {s : ByteArray} (hs : σ.pub.at? s = none) {w' : World} {b : Nat} (hb : w.heap.size ≤ b)
    (hf : w'.heap[b]? = some (.cells #[.slice none 0 0, .int .i64 0] 60 (0, 0)))
    (hm : w'.heap[σ.m]? = some (.map (ents (entsOf σ.files ++ [(s, b, σ.clock)])) (σ.clock + 1)))
    (hk : ∀ k, k < w.heap.size → k ≠ σ.m → w'.heap[k]? = w.heap[k]?) : DiskAt w' d (fun k => F k ∨ k = b) { σ with files := σ.files ++ [⟨s, b, σ.clock, .slice none 0 0, [], 0⟩], clock := σ.clock + 1 } := by
  have hold : ∀ f, f ∈ σ.files → FileAt w' f := fun f hf => (h.file f hf).keep (hk _ (h.lt_blk hf) (h.ne_blk_m hf)) fun k hkk => hk k ((h.file f hf).2.1.lt k hkk) (h.ne_arr_m hf hkk)
  refine { head := ?_, map := ?_, file := ?_, apart := ?_, footD := .inl h.footD, footM := .inl h.footM, footF := ?_, used := ?_, room := h.room, fuse := h.fuse }
  · show w'.heap[d]? = _
    rw [hk d h.lt_d (fun e => h.ne_m e.symm)]; exact h.head
  · show w'.heap[σ.m]? = some (.map (ents (entsOf (σ.files ++ [⟨s, b, σ.clock, .slice none 0 0, [], 0⟩]))) (σ.clock + 1))
    rw [hm]; simp [entsOf]
  · intro f hf'
    rcases List.mem_append.1 hf' with h1 | h1
    · exact hold f h1
    · rcases List.mem_singleton.1 h1 with rfl
      exact ⟨hf, Own.nil _ _ _, Nat.le_refl _⟩
  · show (σ.files ++ [_]).Pairwise ApartF
    rw [List.pairwise_append]
    refine ⟨h.apart, List.pairwise_singleton _ _, fun f hf' g hg => ?_⟩
    rcases List.mem_singleton.1 hg with rfl
    refine ⟨fun e => ?_, ?_, ?_⟩
    · unfold PD.at? at hs
      rw [List.findIdx?_eq_none_iff] at hs
      have := hs (f.name, f.data, f.sure) (by unfold DiskS.pub; exact List.mem_map_of_mem hf')
      simp [e] at this
    · have := h.lt_blk hf'; simp only; omega
    · show f.v.ownBlock = none ∨ f.v.ownBlock ≠ none
      cases f.v.ownBlock <;> simp
  · intro f hf'
    rcases List.mem_append.1 hf' with h1 | h1
    · exact ⟨.inl (h.footF f h1).1, fun k hk => .inl ((h.footF f h1).2 k hk)⟩
    · rcases List.mem_singleton.1 h1 with rfl
      exact ⟨.inr rfl, fun k hk => by cases hk⟩
  · have := h.used
    show σ.used = (((σ.files ++ [_]).map fun f : FileE => f.data.length).sum : Nat)
    simp [this]
end

end Go.Proofs.YtebkmpgmcldeoaaDoor
