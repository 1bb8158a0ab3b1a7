/- A list that is made anew: in plain words; what lies apart from the disk. -/
import Derived.Test.YtebkmpgmcldeoaaDoorSs
import Derived.Test.YtebkmpgmcldeoaaDoorSl
import Derived.Test.YtebkmpgmcldeoaaDoorR
namespace Go.Proofs.YtebkmpgmcldeoaaDoor
open Go Go.Proofs Go.RowKit Go.Sort
set_option linter.unusedVariables false

/-- From W0 to W: only the disk (among F at first, among G at last) and what is new have changed. -/
structure FI (W0 W : World) (d : Nat) (F G : Nat → Prop) (q : PD) : Prop where
  dk : DK W d G q
  keep : Keep F W0 W
  apart : ∀ k, k < W0.heap.size → ¬ F k → ¬ G k
section
variable {W0 W1 W W' : World} {d : Nat} {F G G' : Nat → Prop} {q q' : PD}
theorem FI.refl (h : DK W d G q) : FI W W d G G q := ⟨h, Keep.refl _ _, fun k _ hn => hn⟩
theorem FI.trans (h : FI W0 W1 d F G q) (h' : FI W1 W' d G G' q') : FI W0 W' d F G' q' := by
  refine ⟨h'.dk, h.keep.step h'.keep fun i hi => ?_, fun k hk hn => h'.apart k (Nat.lt_of_lt_of_le hk h.keep.size) (h.apart k hk hn)⟩
  by_cases hf : F i
  · exact .inl hf
  · rcases Nat.lt_or_ge i W0.heap.size with h1 | h1
    · exact absurd hi (h.apart i h1 hf)
    · exact .inr h1
theorem FI.step (h : FI W0 W d F G q) (hs : Stp G d W W' q') : ∃ G', FI W0 W' d F G' q' := by
  obtain ⟨G', h1, h2, h3⟩ := hs.next
  exact ⟨G', h.trans ⟨h1, h2, h3⟩⟩
theorem FI.below (h : FI W0 W d F G q) (hB : RowKit.Below W.heap.size W W') : FI W0 W' d F G q :=
  h.trans ⟨h.dk.below hB, (Keep.of_below (F := fun _ => False) hB).mono (fun k h => h.elim), fun k _ hn => hn⟩
theorem FI.block (h : FI W0 W d F G q) {k : Nat} (hk : k < W0.heap.size) (hn : ¬ F k) : W.heap[k]? = W0.heap[k]? := h.keep.block k hk hn
/-- a store into a block that is new, and none of the disk's -/
theorem FI.set (h : FI W0 W d F G q) {b : Nat} (hb : W0.heap.size ≤ b) (hn : ¬ G b) (o : Nat) (u : Value) : FI W0 (W.setCell ⟨b, o, none⟩ u) d F G q := by
  have hs : (W.setCell ⟨b, o, none⟩ u).heap.size = W.heap.size := by simp [World.setCell]
  refine ⟨h.dk.keep (by omega) fun k hg => heap_setCell_other (p := ⟨b, o, none⟩) (fun (e : k = b) => hn (e ▸ hg)) _, ⟨h.keep.os, h.keep.tape, h.keep.output, by rw [hs]; exact h.keep.size, fun k hk hf => ?_⟩, h.apart⟩
  exact (heap_setCell_other (p := ⟨b, o, none⟩) (fun (e : k = b) => by omega) _).trans (h.keep.block k hk hf)
theorem FI.drew (h : FI W0 W d F G q) : FI W0 W.drew d F G q := ⟨h.dk.drew, ⟨h.keep.os, h.keep.tape, h.keep.output, h.keep.size, h.keep.block⟩, h.apart⟩
theorem FI.drewN (h : FI W0 W d F G q) (n : Nat) : FI W0 (W.drewN n) d F G q := ⟨h.dk.keep (Nat.le_refl _) (fun _ _ => rfl), ⟨h.keep.os, h.keep.tape, h.keep.output, h.keep.size, h.keep.block⟩, h.apart⟩
end

/-- a file is made anew: what had its name is gone -/
def putFile (p : PD) (s : ByteArray) (b : List UInt8) : PD × Int :=
  if (p.sizeR s).2 = 0 ∧ (p.removeR s).2 ≠ 0 then p.removeR s else
  if ((if (p.sizeR s).2 = 0 then (p.removeR s).1 else p).createR s).2 ≠ 0 then (if (p.sizeR s).2 = 0 then (p.removeR s).1 else p).createR s else
  if (((if (p.sizeR s).2 = 0 then (p.removeR s).1 else p).createR s).1.appendR s b).2 ≠ 0 then ((if (p.sizeR s).2 = 0 then (p.removeR s).1 else p).createR s).1.appendR s b else
  (((if (p.sizeR s).2 = 0 then (p.removeR s).1 else p).createR s).1.appendR s b).1.syncR s
def allE (v : VersP) : EditP := ⟨v.files, [], v.log, v.next, v.seq⟩
def firstB (v : VersP) : List UInt8 := recL (encL (allE v))
def pointB (n : Nat) : List UInt8 := recL (putL (n + 1))
/-- the disk when both files are made -/
def freshD (p : PD) (n : Nat) (v : VersP) : PD := (putFile (putFile p (nameS (n + 1)) (firstB v)).1 soonS (pointB n)).1
def freshR (p : PD) (n : Nat) (v : VersP) : PD × Int :=
  if 1048576 < (encL (allE v)).length then (p, 6) else
  if 1073741824 < n + 1 then (p, 3) else
  if p.room - p.used < ((firstB v).length + (pointB n).length : Nat) then (p, 11) else
  if (putFile p (nameS (n + 1)) (firstB v)).2 ≠ 0 then putFile p (nameS (n + 1)) (firstB v) else
  if (putFile (putFile p (nameS (n + 1)) (firstB v)).1 soonS (pointB n)).2 ≠ 0 then putFile (putFile p (nameS (n + 1)) (firstB v)).1 soonS (pointB n) else
  (freshD p n v).renameR soonS nowS

def sAt (n j : Nat) : ByteArray := if j = 0 then nameS (n + 1) else soonS
def bAt (rn pb : List UInt8) (j : Nat) : List UInt8 := if j = 0 then rn else pb
def qAt (n : Nat) (rn pb : List UInt8) (p : PD) : Nat → PD
  | 0 => p
  | j + 1 => (putFile (qAt n rn pb p j) (sAt n j) (bAt rn pb j)).1
def stg (n : Nat) (rn pb : List UInt8) : Nat → Nat → PD → PD × Int
  | 0, _, q => q.renameR soonS nowS
  | k + 1, j, q => if (putFile q (sAt n j) (bAt rn pb j)).2 ≠ 0 then putFile q (sAt n j) (bAt rn pb j) else stg n rn pb k (j + 1) (putFile q (sAt n j) (bAt rn pb j)).1
theorem stg_two (n : Nat) (rn pb : List UInt8) (p : PD) : stg n rn pb 2 0 p = if (putFile p (nameS (n + 1)) rn).2 ≠ 0 then putFile p (nameS (n + 1)) rn else
      if (putFile (putFile p (nameS (n + 1)) rn).1 soonS pb).2 ≠ 0 then putFile (putFile p (nameS (n + 1)) rn).1 soonS pb else
      ((putFile (putFile p (nameS (n + 1)) rn).1 soonS pb).1).renameR soonS nowS := rfl
theorem putFile_rem {q : PD} {s : ByteArray} {b : List UInt8} (h1 : (q.sizeR s).2 = 0) (h2 : (q.removeR s).2 ≠ 0) : putFile q s b = q.removeR s := by
  unfold putFile; rw [if_pos ⟨h1, h2⟩]
theorem putFile_eq {q q2 : PD} {s : ByteArray} {b : List UInt8} (hq : q2 = if (q.sizeR s).2 = 0 then (q.removeR s).1 else q) (h : ¬ ((q.sizeR s).2 = 0 ∧ (q.removeR s).2 ≠ 0)) :
    putFile q s b = if (q2.createR s).2 ≠ 0 then q2.createR s else if ((q2.createR s).1.appendR s b).2 ≠ 0 then (q2.createR s).1.appendR s b else ((q2.createR s).1.appendR s b).1.syncR s := by
  subst hq; unfold putFile; rw [if_neg h]
theorem sAt_size (n j : Nat) (h : n ≤ 4294967295) : (sAt n j).size ≤ 14 := by
  unfold sAt
  split
  · exact nameS_size (n + 1) (by omega)
  · exact (by decide : soonS.size ≤ 14)
theorem pointB_len (n : Nat) (h : n ≤ 4294967296) : (pointB n).length ≤ 22 := by
  unfold pointB
  rw [recL_length]
  have := putL_len10 (n := n + 1) (by omega)
  omega
theorem soonS_list : soonS.toList = [115, 111, 111, 110] := by kernel_rfl
theorem nameS_ne (n : Nat) (a : UInt8) (l : List UInt8) (ha : a ≠ 109) : nameS n ≠ ⟨(a :: l).toArray⟩ := by
  intro h
  have h1 := congrArg (fun b : ByteArray => b.data.toList) h
  unfold nameS at h1
  simp only [ByteArray.data_append, Array.toList_append] at h1
  simp at h1
  exact ha h1.1.symm
theorem nameS_soon (n : Nat) : ((nameS n).toList == soonS.toList) = false := by
  rw [← beq_toListBytes, beq_eq_false_iff_ne]
  exact nameS_ne n 115 [111, 111, 110] (by decide)

theorem sAt_soon0 (n : Nat) : ((sAt n 0).toList == [115, 111, 111, 110]) = false := by
  rw [← soonS_list]; exact nameS_soon (n + 1)
theorem sAt_soon1 (n j : Nat) (h : j ≠ 0) : ((sAt n j).toList == [115, 111, 111, 110]) = true := by
  unfold sAt; rw [if_neg h, soonS_list]; rfl

end Go.Proofs.YtebkmpgmcldeoaaDoor
