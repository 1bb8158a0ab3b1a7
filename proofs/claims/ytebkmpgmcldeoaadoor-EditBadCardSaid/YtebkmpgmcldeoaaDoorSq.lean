/- Load, in plain words. -/
import Derived.Test.YtebkmpgmcldeoaaDoorSo
import Derived.Test.YtebkmpgmcldeoaaDoorSp
import Derived.Test.YtebkmpgmcldeoaaDoorK
import Derived.Test.YtebkmpgmcldeoaaDoorT
namespace Go.Proofs.YtebkmpgmcldeoaaDoor
open Go Go.Proofs Go.RowKit Go.Sort
set_option linter.unusedVariables false

/-- a file's bytes -/
def PD.fileB (p : PD) (s : ByteArray) : Option (List UInt8) := (p.at? s).map p.dataAt
theorem PD.size_some {p : PD} {s : ByteArray} {b : List UInt8} (hd : p.down = false) (h : p.fileB s = some b) : p.sizeR s = (b.length, 0) ∧ p.readR s 0 b.length = (b, 0) := by
  unfold PD.fileB at h
  obtain ⟨j, hj, rfl⟩ := Option.map_eq_some_iff.1 h
  unfold PD.sizeR PD.readR
  rw [hd, hj]
  refine ⟨by simp, ?_⟩
  simp
theorem PD.size_none {p : PD} {s : ByteArray} (hd : p.down = false) (h : p.fileB s = none) : p.sizeR s = (0, 4) := by
  unfold PD.fileB at h
  have hj := Option.map_eq_none_iff.1 h
  unfold PD.sizeR
  rw [hd, hj]; simp
theorem PD.size_down {p : PD} {s : ByteArray} (hd : p.down = true) : p.sizeR s = (0, 10) := by unfold PD.sizeR; rw [hd]; simp
theorem DiskIs.len_le {w : World} {d : Nat} {F : Nat → Prop} {p : PD} (h : DiskIs w d F p) {s : ByteArray} {b : List UInt8} (hb : p.fileB s = some b) : b.length ≤ 67108864 := by
  obtain ⟨σ, h, rfl⟩ := h
  unfold PD.fileB at hb
  obtain ⟨j, hj, rfl⟩ := Option.map_eq_some_iff.1 hb
  rw [(pub_files σ hj).1]
  exact h.data_le (List.getElem_mem _)

theorem nextL_len (b : List UInt8) : (nextL b).1.length ≤ b.length := by
  obtain ⟨⟨d, n, e⟩, h⟩ : ∃ r, nextL b = r := ⟨_, rfl⟩
  rw [h]
  by_cases he : e = 0
  · have := nextL_pos h he; simp; omega
  · unfold nextL at h
    repeat' (split at h)
    all_goals (injection h with h1 h2; subst h1)
    all_goals (simp only [List.length_take, List.length_drop, List.length_nil]; omega)
theorem allAux_len : ∀ (k : Nat) (b : List UInt8), ∀ d ∈ (allAux k b).1, d.length ≤ b.length
  | 0, b, d, h => by simp [allAux] at h
  | k + 1, b, d, h => by
    rw [allAux] at h
    split at h
    · simp at h
    · split at h
      · simp at h
      · split at h
        · simp at h
        · rcases List.mem_cons.1 h with rfl | h
          · exact nextL_len b
          · have := allAux_len k _ d h
            rw [List.length_drop] at this; omega
theorem allL_len (b : List UInt8) : ∀ d ∈ (allL b).1, d.length ≤ b.length := allAux_len _ b

theorem delsR_len : ∀ (k : Nat) (s : RS), (delsR k s).2.length = k
  | 0, s => rfl
  | k + 1, s => by rw [delsR]; simp [delsR_len k]
theorem addsR_len : ∀ (k : Nat) (s : RS), (addsR k s).2.length = k
  | 0, s => rfl
  | k + 1, s => by rw [addsR]; simp [addsR_len k]
theorem metaR_bound (s : RS) : boundM (metaR s).2 := by
  unfold metaR boundM
  have := (takeR_len s 1073741824).2
  simp only
  omega
theorem addsR_bound : ∀ (k : Nat) (s : RS), ∀ m ∈ (addsR k s).2, boundM m
  | 0, s, m, h => by simp [addsR] at h
  | k + 1, s, m, h => by
    rw [addsR] at h
    rcases List.mem_cons.1 h with rfl | h
    · exact metaR_bound s
    · exact addsR_bound k _ m h
theorem decodeR_add (b : List UInt8) : (decodeR b).1.add.length ≤ 1000 ∧ (decodeR b).1.del.length ≤ 1000 ∧ ∀ m ∈ (decodeR b).1.add, boundM m := by
  unfold decodeR
  dsimp only
  generalize head3 b = h
  have b1 := (takeR_len h.1 1000).2
  generalize takeR h.1 1000 = nd at b1 ⊢
  have l2 := delsR_len nd.2 nd.1
  generalize delsR nd.2 nd.1 = ds at l2 ⊢
  have b2 := (takeR_len ds.1 1000).2
  generalize takeR ds.1 1000 = na at b2 ⊢
  have l3 := addsR_len na.2 na.1
  have b3 := addsR_bound na.2 na.1
  generalize addsR na.2 na.1 = ads at l3 b3 ⊢
  split
  · simp
  · exact ⟨by rw [l3]; exact b2, by rw [l2]; exact b1, b3⟩

theorem okM_bound {m : Meta} (h : okM m = true) : boundM m := by
  unfold okM at h
  rw [decide_eq_true_eq] at h
  unfold boundM
  omega
theorem checkR_ok {v : VersP} (h : checkR v = 0) : headOk v.log v.next v.seq = true ∧ v.files.length ≤ 1000 ∧ (List.range v.files.length).all (fileOk v.next v.files) = true ∧ (List.range' 1 5).all (levelOk v.files) = true := by
  unfold checkR at h
  split at h
  · cases h
  · split at h
    · cases h
    · split at h
      · cases h
      · split at h
        · cases h
        · rename_i h1 h2 h3 h4
          exact ⟨by simpa using h1, by omega, by simpa using h3, by simpa using h4⟩
theorem files_ok {v : VersP} (h : checkR v = 0) : ∀ m ∈ v.files, okM m = true := by
  intro m hm
  obtain ⟨k, hk, rfl⟩ := List.getElem_of_mem hm
  have := List.all_eq_true.1 (checkR_ok h).2.2.1 k (List.mem_range.2 hk)
  unfold fileOk at this
  simp [hk] at this
  exact this.1.1

/-- a version that may lie in memory -/
def fitV (v : VersP) : Prop := v.files.length ≤ 1000 ∧ ∀ m ∈ v.files, boundM m
theorem applyR_fit {v : VersP} {e : EditP} (h : (applyR v e).2 = 0) : checkR (applyR v e).1 = 0 ∧ fitV (applyR v e).1 := by
  unfold applyR at h ⊢
  split
  · rename_i hb; rw [if_pos hb] at h; cases h
  · rename_i hb
    rw [if_neg hb] at h
    split
    · rename_i hc
      exact ⟨hc, (checkR_ok hc).2.1, fun m hm => okM_bound (files_ok hc m hm)⟩
    · rename_i hc; rw [if_neg hc] at h; exact absurd h hc

def firstV : VersP := ⟨[], 1, 1, 0⟩
theorem firstV_fit : fitV firstV := ⟨by simp [firstV], by simp [firstV]⟩
def loadFold : VersP → List (List UInt8) → Option VersP
  | v, [] => some v
  | v, x :: ds => if (decodeR x).2 ≠ 0 then none else if (applyR v (decodeR x).1).2 ≠ 0 then none else loadFold (applyR v (decodeR x).1).1 ds
def nowS : ByteArray := ⟨#[110, 111, 119]⟩
def soonS : ByteArray := ⟨#[115, 111, 111, 110]⟩
def loadV (n : Nat) : Option VersP → Int ⊕ (Nat × VersP)
  | none => .inl 12
  | some v => .inr (n, v)
def loadC (n : Nat) : Option (List UInt8) → Int ⊕ (Nat × VersP)
  | none => .inl 12
  | some c => if (allL c).2.2 ≠ 0 ∨ (allL c).1.length = 0 then .inl 12 else loadV n (loadFold firstV (allL c).1)
def loadB (p : PD) (b : List UInt8) : Int ⊕ (Nat × VersP) :=
  if (nextL b).2.2 ≠ 0 ∨ (nextL b).2.1 ≠ b.length then .inl 12 else
  if (getL (nextL b).1).2.2 ≠ 0 ∨ (getL (nextL b).1).2.1 ≠ (nextL b).1.length ∨ (getL (nextL b).1).1 < 1 ∨ 1073741824 < (getL (nextL b).1).1 then .inl 12 else
  loadC (getL (nextL b).1).1 (p.fileB (nameS (getL (nextL b).1).1))
/-- what is loaded of a disk: an error, or which list and the version that it makes -/
def loadR (p : PD) : Int ⊕ (Nat × VersP) :=
  if p.down = true then .inl 10 else
  match p.fileB nowS with
  | none => .inr (0, firstV)
  | some b => loadB p b

set_option maxRecDepth 100000 in
theorem first_calls (w : World) : Calls Tryd.prog 16 #[] w fun e w' => e = .returned (.agg #[.slice none 0 0, .int .i64 1, .int .i64 1, .int .u64 0]) ∧ RowKit.Below w.heap.size w w' := by
  have HE := Lib.hid (heap_alloc_new w (.cells #[.slice none 0 0, .int .i64 1, .int .i64 1, .int .u64 0] 37))
  have HB := Lib.hid ((Below.refl w.heap.size w).alloc (Nat.le_refl _) (.cells #[.slice none 0 0, .int .i64 1, .int .i64 1, .int .u64 0] 37))
  go_enter Tryd.func16, Tryd.ntmps16
  go_wp2_with fail
  (try simp only [Exit.inBlock, Exit.then])
  refine bodyPost_ret (results_row (by rfl) _ _ w.heap.size 37 _ (0, 0) (by rfl) HE.out tyVers szVers) (by rfl) ?_
  exact ⟨rfl, HB.out⟩

end Go.Proofs.YtebkmpgmcldeoaaDoor
