/- The disk: how it lies in memory, and what its calls do. -/
import Derived.Test.YtebkmpgmcldeoaaDoorO
import Derived.Outline
namespace Go.Proofs.YtebkmpgmcldeoaaDoor
open Go.RowKit
set_option linter.unusedVariables false

theorem tyMap : Tryd.prog.underlying 51 = some (.map 9 55) := by kernel_rfl
theorem zeroFile (w : World) : (zeroValue 55).run Tryd.prog w = .ok (.pointer none) w := by kernel_rfl

/-! ### What a disk is, without memory. -/
/-- A file: its name, its bytes, how many of them are sure. -/
abbrev PFile := ByteArray × List UInt8 × Nat
structure PD where
  room : Int
  used : Int
  down : Bool
  fuse : Int
  files : List PFile

namespace PD
def at? (p : PD) (s : ByteArray) : Option Nat := p.files.findIdx? (fun x => x.1 == s)
def dataAt (p : PD) (j : Nat) : List UInt8 := (p.files.getD j (⟨#[]⟩, [], 0)).2.1
def sureAt (p : PD) (j : Nat) : Nat := (p.files.getD j (⟨#[]⟩, [], 0)).2.2
def stepped (p : PD) : PD := if 0 < p.fuse then { p with fuse := p.fuse - 1, down := p.fuse - 1 == 0 } else p
def errOf (b : Bool) : Int := if b then 10 else 0
def findE (p : PD) (s : ByteArray) : Int := if p.down then 10 else if (p.at? s).isSome then 0 else 4
end PD

/-! ### How it lies in memory. -/
structure FileE where
  name : ByteArray
  blk : Nat
  born : Nat
  v : Value
  data : List UInt8
  sure : Nat

structure DiskS where
  room : Int
  used : Int
  down : Bool
  fuse : Int
  files : List FileE
  m : Nat
  clock : Nat

def DiskS.pub (σ : DiskS) : PD := ⟨σ.room, σ.used, σ.down, σ.fuse, σ.files.map fun f => (f.name, f.data, f.sure)⟩

def FileAt (w : World) (f : FileE) : Prop := w.heap[f.blk]? = some (.cells #[f.v, .int .i64 f.sure] 60 (0, 0)) ∧ OwnB w f.v f.data ∧ f.sure ≤ f.data.length

def entsOf (l : List FileE) : List Ent := l.map fun f => (f.name, f.blk, f.born)

def ApartF (f g : FileE) : Prop := f.name ≠ g.name ∧ f.blk ≠ g.blk ∧ (f.v.ownBlock = none ∨ f.v.ownBlock ≠ g.v.ownBlock)

structure DiskAt (w : World) (d : Nat) (F : Nat → Prop) (σ : DiskS) : Prop where
  head : w.heap[d]? = some (.cells #[.int .i64 σ.room, .int .i64 σ.used, .map (some σ.m), .bool σ.down, .int .i64 σ.fuse] 53 (0, 0))
  map : w.heap[σ.m]? = some (.map (ents (entsOf σ.files)) σ.clock)
  file : ∀ f ∈ σ.files, FileAt w f
  apart : σ.files.Pairwise ApartF
  footD : F d
  footM : F σ.m
  footF : ∀ f ∈ σ.files, F f.blk ∧ ∀ k, f.v.ownBlock = some k → F k
  used : σ.used = ((σ.files.map fun f => f.data.length).sum : Nat)
  room : σ.used ≤ σ.room ∧ σ.room ≤ 67108864
  fuse : 0 ≤ σ.fuse ∧ σ.fuse < 9223372036854775808

/-- The block d is a disk that is p; what it is made of lies within F. -/
def DiskIs (w : World) (d : Nat) (F : Nat → Prop) (p : PD) : Prop := ∃ σ, DiskAt w d F σ ∧ σ.pub = p

section
variable {w : World} {d : Nat} {F : Nat → Prop} {σ : DiskS}

theorem DiskAt.at? (σ : DiskS) (s : ByteArray) : at? s (entsOf σ.files) = σ.pub.at? s := by
  unfold Proofs.YtebkmpgmcldeoaaDoor.at? entsOf DiskS.pub PD.at?
  rw [List.findIdx?_map, List.findIdx?_map]
  rfl

theorem Own.ne {e e' : TypeId} {size : Nat} {v : Value} {n : Nat} {l : List Value} (h : Own w e size v n l) {b : Nat} {o : Obj} (ho : w.heap[b]? = some o) (hn : ∀ c, o ≠ .cells c e (0, 0)) {k : Nat} (hk : v.ownBlock = some k) : k ≠ b := by
  rcases h.2 with ⟨rfl, _⟩ | ⟨g, cap, cur, rfl, hg, _⟩
  · cases hk
  · have hgk : g = k := by injection hk
    subst hgk
    intro e; subst e
    rw [hg] at ho; exact hn _ (Option.some.inj ho).symm

theorem FileAt.keep {w' : World} {f : FileE} (h : FileAt w f) (h1 : w'.heap[f.blk]? = w.heap[f.blk]?) (hk : ∀ k, f.v.ownBlock = some k → w'.heap[k]? = w.heap[k]?) : FileAt w' f :=
  ⟨h1.trans h.1, h.2.1.keep hk, h.2.2⟩

theorem DiskAt.lt_d (h : DiskAt w d F σ) : d < w.heap.size := lt_of_heap h.head
theorem DiskAt.lt_m (h : DiskAt w d F σ) : σ.m < w.heap.size := lt_of_heap h.map
theorem DiskAt.ne_m (h : DiskAt w d F σ) : σ.m ≠ d := fun e => by have := h.map; rw [e, h.head] at this; cases this
theorem DiskAt.ne_blk (h : DiskAt w d F σ) {f : FileE} (hf : f ∈ σ.files) : f.blk ≠ d := fun e => by have := (h.file f hf).1; rw [e, h.head] at this; simp at this
theorem DiskAt.ne_blk_m (h : DiskAt w d F σ) {f : FileE} (hf : f ∈ σ.files) : f.blk ≠ σ.m := fun e => by have := (h.file f hf).1; rw [e, h.map] at this; cases this
theorem DiskAt.ne_arr_d (h : DiskAt w d F σ) {f : FileE} (hf : f ∈ σ.files) {k : Nat} (hk : f.v.ownBlock = some k) : k ≠ d := (h.file f hf).2.1.ne (e' := 0) h.head (by simp) hk
theorem DiskAt.ne_arr_m (h : DiskAt w d F σ) {f : FileE} (hf : f ∈ σ.files) {k : Nat} (hk : f.v.ownBlock = some k) : k ≠ σ.m := (h.file f hf).2.1.ne (e' := 0) h.map (by simp) hk
theorem DiskAt.ne_arr_blk (h : DiskAt w d F σ) {f g : FileE} (hf : f ∈ σ.files) (hg : g ∈ σ.files) {k : Nat} (hk : f.v.ownBlock = some k) : k ≠ g.blk := (h.file f hf).2.1.ne (e' := 0) (h.file g hg).1 (by simp) hk
theorem DiskAt.lt_blk (h : DiskAt w d F σ) {f : FileE} (hf : f ∈ σ.files) : f.blk < w.heap.size := lt_of_heap (h.file f hf).1

/-- Nothing that the disk is made of turns. -/
theorem DiskAt.keep (h : DiskAt w d F σ) {w' : World} (hk : ∀ k, F k → k < w.heap.size → w'.heap[k]? = w.heap[k]?) : DiskAt w' d F σ where
  head := by rw [hk d h.footD h.lt_d]; exact h.head
  map := by rw [hk _ h.footM h.lt_m]; exact h.map
  file f hf := (h.file f hf).keep (hk _ (h.footF f hf).1 (h.lt_blk hf)) fun k hk' => hk k ((h.footF f hf).2 k hk') ((h.file f hf).2.1.lt k hk')
  apart := h.apart
  footD := h.footD
  footM := h.footM
  footF := h.footF
  used := h.used
  room := h.room
  fuse := h.fuse
theorem DiskIs.keep {p : PD} (h : DiskIs w d F p) {w' : World} (hk : ∀ k, F k → k < w.heap.size → w'.heap[k]? = w.heap[k]?) : DiskIs w' d F p := by
  obtain ⟨σ, h1, h2⟩ := h
  exact ⟨σ, h1.keep hk, h2⟩
theorem DiskIs.keeps {p : PD} (h : DiskIs w d F p) {w' : World} {G : Nat → Prop} (hk : Keep G w w') (hn : ∀ k, F k → k < w.heap.size → ¬ G k) : DiskIs w' d F p :=
  h.keep fun k hf hl => hk.block k hl (hn k hf hl)
theorem DiskAt.mono (h : DiskAt w d F σ) {G : Nat → Prop} (hg : ∀ k, F k → G k) : DiskAt w d G σ :=
  { h with footD := hg _ h.footD, footM := hg _ h.footM, footF := fun f hf => ⟨hg _ (h.footF f hf).1, fun k hk => hg _ ((h.footF f hf).2 k hk)⟩ }

/-- The disk's own block turns, all else of it stays. -/
theorem DiskAt.newHead (h : DiskAt w d F σ) {w' : World} (hk : ∀ k, k ≠ d → w'.heap[k]? = w.heap[k]?) {r u fu : Int} {dn : Bool}
    (hh : w'.heap[d]? = some (.cells #[.int .i64 r, .int .i64 u, .map (some σ.m), .bool dn, .int .i64 fu] 53 (0, 0)))
    (hu : u = σ.used) (hr : r = σ.room) (hf : 0 ≤ fu ∧ fu < 9223372036854775808) : DiskAt w' d F { σ with down := dn, fuse := fu } where
  head := by rw [hh, hu, hr]
  map := by rw [hk _ h.ne_m]; exact h.map
  file f hf := (h.file f hf).keep (hk _ (h.ne_blk hf)) fun k hk' => hk _ (h.ne_arr_d hf hk')
  apart := h.apart
  footD := h.footD
  footM := h.footM
  footF := h.footF
  used := h.used
  room := h.room
  fuse := hf

def DiskS.stepped (σ : DiskS) : DiskS := if 0 < σ.fuse then { σ with fuse := σ.fuse - 1, down := σ.fuse - 1 == 0 } else σ
theorem DiskS.pub_stepped (σ : DiskS) : σ.stepped.pub = σ.pub.stepped := by unfold DiskS.stepped PD.stepped DiskS.pub; split <;> rfl
theorem DiskS.files_stepped (σ : DiskS) : σ.stepped.files = σ.files ∧ σ.stepped.m = σ.m ∧ σ.stepped.clock = σ.clock ∧ σ.stepped.room = σ.room ∧ σ.stepped.used = σ.used := by unfold DiskS.stepped; split <;> exact ⟨rfl, rfl, rfl, rfl, rfl⟩

theorem DiskAt.stepped (h : DiskAt w d F σ) (hf : 0 < σ.fuse) : DiskAt ((w.setCell ⟨d, 4, none⟩ (.int .i64 (σ.fuse - 1))).setCell ⟨d, 3, none⟩ (.bool (σ.fuse - 1 == 0))) d F σ.stepped := by
  have hb := h.fuse
  have e := h.newHead (w' := (w.setCell ⟨d, 4, none⟩ (.int .i64 (σ.fuse - 1))).setCell ⟨d, 3, none⟩ (.bool (σ.fuse - 1 == 0))) (fun k hk => by rw [heap_setCell_other hk, heap_setCell_other hk])
    (heap_setCell_same (heap_setCell_same h.head _ _) _ _) rfl rfl (by omega)
  unfold DiskS.stepped; rw [if_pos hf]; exact e

set_option maxHeartbeats 400000 in
theorem step_at (h : DiskAt w d F σ) :
    Calls Tryd.prog 21 #[.pointer (some ⟨d, 0, none⟩)] w fun e w' => e = .returned (.int .i64 (PD.errOf σ.stepped.down)) ∧ DiskAt w' d F σ.stepped ∧ Keep (· = d) w w' := by
  have c3 := cell_of_heap h.head 3
  have c4 := cell_of_heap h.head 4
  have f3 := free_of_heap h.head 3
  have f4 := free_of_heap h.head 4
  have hb := h.fuse
  by_cases hf : 0 < σ.fuse
  · have H := Lib.hid (h.stepped hf)
    have hd : σ.stepped.down = (σ.fuse - 1 == 0) := by unfold DiskS.stepped; rw [if_pos hf]
    have HD := Lib.hid hd
    have HK := Lib.hid (((Keep.refl (· = d) w).set _ d 4 rfl (.int .i64 (σ.fuse - 1))).set _ d 3 rfl (.bool (σ.fuse - 1 == 0)))
    clear h hd
    go_enter Tryd.func21, Tryd.ntmps21
    go_wp2
    all_goals
      go_ret
      exact ⟨by rw [HD.out, ‹(σ.fuse - 1 == 0) = _›]; rfl, H.out, HK.out⟩
  · have hs : σ.stepped = σ := by unfold DiskS.stepped; rw [if_neg hf]
    have H := Lib.hid h
    have HS := Lib.hid hs
    clear h hs
    cases hdn : σ.down
    all_goals
      simp only [hdn] at c3
      have HD := Lib.hid hdn
      clear hdn
      go_enter Tryd.func21, Tryd.ntmps21
      go_wp2
      go_ret
      exact ⟨by rw [HS.out, HD.out]; rfl, by rw [HS.out]; exact H.out, Keep.refl _ _⟩

set_option maxHeartbeats 400000 in
theorem find_down (h : DiskAt w d F σ) (hd : σ.down = true) (s : ByteArray) :
    Calls Tryd.prog 20 #[.pointer (some ⟨d, 0, none⟩), .string s] w fun e w' => e = .returned (.tuple #[.pointer none, .int .i64 10]) ∧ w = w' := by
  have c3 := cell_of_heap h.head 3
  simp only [hd] at c3
  clear hd h
  go_enter Tryd.func20, Tryd.ntmps20
  go_wp2
  go_ret2
  exact ⟨rfl, rfl⟩

set_option maxHeartbeats 400000 in
theorem find_miss (h : DiskAt w d F σ) (hd : σ.down = false) {s : ByteArray} (hj : σ.pub.at? s = none) :
    Calls Tryd.prog 20 #[.pointer (some ⟨d, 0, none⟩), .string s] w fun e w' => e = .returned (.tuple #[.pointer none, .int .i64 4]) ∧ w = w' := by
  have c2 := cell_of_heap h.head 2
  have c3 := cell_of_heap h.head 3
  simp only [hd] at c3
  have hrun := lookup_miss (P := Tryd.prog) tyMap tyStr h.map ((DiskAt.at? σ s).trans hj) (zeroFile w)
  clear hd h hj
  go_enter Tryd.func20, Tryd.ntmps20
  go_wp2
  go_ret2
  exact ⟨rfl, rfl⟩

theorem DiskAt.at_lt {s : ByteArray} {j : Nat} (hj : σ.pub.at? s = some j) : j < σ.files.length := by
  unfold PD.at? at hj
  obtain ⟨h1, _⟩ := List.findIdx?_eq_some_iff_getElem.1 hj
  simpa [DiskS.pub] using h1

set_option maxHeartbeats 400000 in
theorem find_hit (h : DiskAt w d F σ) (hd : σ.down = false) {s : ByteArray} {j : Nat} (hj : σ.pub.at? s = some j) :
    Calls Tryd.prog 20 #[.pointer (some ⟨d, 0, none⟩), .string s] w fun e w' => e = .returned (.tuple #[.pointer (some ⟨(σ.files[j]'(DiskAt.at_lt hj)).blk, 0, none⟩), .int .i64 0]) ∧ w = w' := by
  have c2 := cell_of_heap h.head 2
  have c3 := cell_of_heap h.head 3
  simp only [hd] at c3
  have hrun := lookup_hit (P := Tryd.prog) tyMap tyStr h.map ((DiskAt.at? σ s).trans hj)
  have hbl : blkAt (entsOf σ.files) j = (σ.files[j]'(DiskAt.at_lt hj)).blk := by
    have := DiskAt.at_lt hj
    simp [blkAt, entsOf, List.getD, this]
  rw [hbl] at hrun
  generalize (σ.files[j]'(DiskAt.at_lt hj)).blk = b at *
  clear hd h hj hbl
  go_enter Tryd.func20, Tryd.ntmps20
  go_wp2
  go_ret2
  exact ⟨rfl, rfl⟩
end

end Go.Proofs.YtebkmpgmcldeoaaDoor
