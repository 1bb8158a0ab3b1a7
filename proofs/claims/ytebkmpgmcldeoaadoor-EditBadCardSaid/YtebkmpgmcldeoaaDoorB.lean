/- Base words: frames, string-keyed maps of pointers, bytes in memory. -/
import Derived.Test.YtebkmpgmcldeoaaDoorProg
import Derived.WalkKit
import Derived.WalkSpells
import Derived.WalkLawsBesides
import Derived.Lib.Hide
import Derived.Deep.QuietTactic
import Derived.BigQuiet
import Derived.Deep.LoopGhost
import Derived.KernelRfl
import Derived.IntWalk
import Derived.StillTailTactics
namespace Go.Proofs.YtebkmpgmcldeoaaDoor
open Go.RowKit

/-- Outside the blocks F the world w' is as w was, but for new blocks. -/
structure Keep (F : Nat → Prop) (w w' : World) : Prop where
  os : w'.os = w.os
  tape : w'.tape = w.tape
  output : w'.output = w.output
  size : w.heap.size ≤ w'.heap.size
  block : ∀ k, k < w.heap.size → ¬ F k → w'.heap[k]? = w.heap[k]?

theorem Keep.refl (F : Nat → Prop) (w : World) : Keep F w w := ⟨rfl, rfl, rfl, Nat.le_refl _, fun _ _ _ => rfl⟩
theorem Keep.trans {F : Nat → Prop} {a b c : World} (h : Keep F a b) (k : Keep F b c) : Keep F a c :=
  ⟨k.os.trans h.os, k.tape.trans h.tape, k.output.trans h.output, Nat.le_trans h.size k.size, fun i hi hn => (k.block i (Nat.lt_of_lt_of_le hi h.size) hn).trans (h.block i hi hn)⟩
theorem Keep.mono {F G : Nat → Prop} {a b : World} (h : Keep F a b) (hFG : ∀ k, F k → G k) : Keep G a b :=
  ⟨h.os, h.tape, h.output, h.size, fun i hi hn => h.block i hi fun hf => hn (hFG i hf)⟩
/-- The second step may touch what is new since the first one. -/
theorem Keep.step {F G : Nat → Prop} {a b c : World} (h : Keep F a b) (k : Keep G b c) (hG : ∀ i, G i → F i ∨ a.heap.size ≤ i) : Keep F a c :=
  ⟨k.os.trans h.os, k.tape.trans h.tape, k.output.trans h.output, Nat.le_trans h.size k.size, fun i hi hn =>
    (k.block i (Nat.lt_of_lt_of_le hi h.size) fun hg => (hG i hg).elim hn (fun hle => absurd hi (by omega))).trans (h.block i hi hn)⟩
theorem Keep.cell {F : Nat → Prop} {w w' : World} (h : Keep F w w') {p : Addr} (hp : p.block < w.heap.size) (hn : ¬ F p.block) : w'.cell? p = w.cell? p := World.cell?_of_block (w := w) (h.block p.block hp hn)
theorem Keep.frozen {F : Nat → Prop} {w w' : World} (h : Keep F w w') {p : Addr} (hp : p.block < w.heap.size) (hn : ¬ F p.block) : w'.frozen? p = w.frozen? p := World.frozen?_of_block (w := w) (h.block p.block hp hn)
theorem Keep.alloc (F : Nat → Prop) (w : World) (o : Obj) : Keep F w (w.alloc o) :=
  ⟨rfl, rfl, rfl, by simp, fun k hk _ => Below.heap_alloc _ _ _ hk⟩
theorem Keep.drew (F : Nat → Prop) (w : World) : Keep F w w.drew := ⟨rfl, rfl, rfl, Nat.le_refl _, fun _ _ _ => rfl⟩
theorem Keep.setCell {F : Nat → Prop} (w : World) {p : Addr} (hp : F p.block) (u : Value) : Keep F w (w.setCell p u) :=
  ⟨rfl, rfl, rfl, by simp [World.setCell], fun k _ hn => Below.heap_setCell _ _ _ _ (fun e => hn (e ▸ hp))⟩
theorem Keep.set (F : Nat → Prop) {a w : World} (h : Keep F a w) (b o : Nat) (hb : F b) (u : Value) : Keep F a (w.setCell ⟨b, o, none⟩ u) := h.trans (Keep.setCell w (p := ⟨b, o, none⟩) hb u)
theorem Keep.below {F : Nat → Prop} {B : Nat} {w w' : World} (h : Keep F w w') (hF : ∀ k, F k → B ≤ k) (hB : B ≤ w.heap.size) : Below B w w' :=
  ⟨h.os, h.tape, h.output, h.size, fun k hk => h.block k (by omega) fun hf => absurd (hF k hf) (by omega)⟩
theorem Keep.of_below {F : Nat → Prop} {w w' : World} (h : Below w.heap.size w w') : Keep F w w' :=
  ⟨h.os, h.tape, h.output, h.size, fun k hk _ => h.block k hk⟩
theorem Keep.of_grown {F : Nat → Prop} {w w' : World} {row : Option Nat} (h : w.grownBy w' row) (hr : ∀ k, row = some k → F k) : Keep F w w' :=
  ⟨h.os, h.tape, h.output, h.size, fun k hk hn => h.block k hk fun e => hn (hr k e.symm)⟩

/-- What a block holds, behind a store into a cell of it. -/
theorem heap_setCell_same {w : World} {b : Nat} {c : Array Value} {t : TypeId} {fr : Nat × Nat} (h : w.heap[b]? = some (.cells c t fr)) (o : Nat) (v : Value) :
    (w.setCell ⟨b, o, none⟩ v).heap[b]? = some (.cells (c.setIfInBounds o v) t fr) := by
  simp [World.setCell, Array.getElem?_modify, h]
theorem heap_setCell_other {w : World} {p : Addr} {b : Nat} (h : b ≠ p.block) (v : Value) : (w.setCell p v).heap[b]? = w.heap[b]? := Below.heap_setCell _ _ _ _ h
theorem cell_of_heap {w : World} {b : Nat} {c : Array Value} {t : TypeId} {fr : Nat × Nat} (h : w.heap[b]? = some (.cells c t fr)) (o : Nat) : w.cell? ⟨b, o, none⟩ = c[o]? := by
  simp [World.cell?, h]
theorem free_of_heap {w : World} {b : Nat} {c : Array Value} {t : TypeId} (h : w.heap[b]? = some (.cells c t (0, 0))) (o : Nat) : w.frozen? ⟨b, o, none⟩ = false := by
  simp [World.frozen?, h]
theorem lt_of_heap {w : World} {b : Nat} {o : Obj} (h : w.heap[b]? = some o) : b < w.heap.size := by
  rcases Nat.lt_or_ge b w.heap.size with h1 | h1
  · exact h1
  · rw [Array.getElem?_eq_none h1] at h; cases h

/-- A region that draws its order: n operations that only read, then a tail in one order. -/
theorem region_tail {P : Program} {id : Nat} {Q : Exit → Act → World → Prop} {a : Act} {w : World} {l : List Oper} (n : Nat) (hm : P.follows .mixedOrders = true) (hB : Region.lexTailB .any l.toArray n = true)
    (h : wpStill P l.toArray w.drew (fun a' => wpList P l.toArray Q (l.drop n) a' w.drew) (l.take n) a) : (Code.region id l.toArray true).wp P Q a w :=
  wp_region_still_tail n hm hB h

/-! ### Maps from strings to pointers. -/

theorem bytesBeq (a b : ByteArray) : (a == b) = true ↔ a = b := by
  have h : (a == b) = (a.data == b.data) := rfl
  rw [h]
  constructor
  · intro h; exact ByteArray.ext (by simpa using h)
  · rintro rfl; simp
instance : LawfulBEq ByteArray where
  eq_of_beq h := (bytesBeq _ _).1 h
  rfl := (bytesBeq _ _).2 rfl

/-- A map's entries: name, the block that the value leads to, the entry's stamp. -/
abbrev Ent := ByteArray × Nat × Nat
def ents (l : List Ent) : Array MapEntry := (l.map fun x => { key := .string x.1, val := .pointer (some ⟨x.2.1, 0, none⟩), born := x.2.2 }).toArray

theorem findNow_ents (s : ByteArray) : ∀ (l : List Ent) (i : Nat), Instr.findNow .string (.string s) (ents l).toList i =
    some ((l.findIdx? (fun x => x.1 == s)).map fun j => (i + j, .pointer (some ⟨(l.getD j (⟨#[]⟩, 0, 0)).2.1, 0, none⟩)))
  | [], i => by simp [ents, Instr.findNow]
  | x :: l, i => by
    have ih := findNow_ents s l (i + 1)
    simp only [ents, List.map_cons, Instr.findNow, Instr.sameNow] at ih ⊢
    by_cases h : x.1 = s
    · subst h
      simp [List.findIdx?_cons]
    · have h1 : (s == x.1) = false := by simp; exact fun e => h e.symm
      have h2 : (x.1 == s) = false := by simp [h]
      simp only [h1, ih, List.findIdx?_cons, h2]
      cases l.findIdx? (fun x => x.1 == s) <;> simp
      omega

/-- Where a name stands. -/
def at? (s : ByteArray) (l : List Ent) : Option Nat := l.findIdx? (fun x => x.1 == s)
def blkAt (l : List Ent) (j : Nat) : Nat := (l.getD j (⟨#[]⟩, 0, 0)).2.1

theorem findNow_at (s : ByteArray) (l : List Ent) : Instr.findNow .string (.string s) (ents l).toList 0 = some ((at? s l).map fun j => (j, .pointer (some ⟨blkAt l j, 0, none⟩))) := by
  rw [findNow_ents]; simp [at?, blkAt]

theorem at?_lt {s : ByteArray} {l : List Ent} {j : Nat} (h : at? s l = some j) : j < l.length := by
  unfold at? at h
  obtain ⟨h1, _⟩ := List.findIdx?_eq_some_iff_getElem.1 h
  exact h1
theorem at?_name {s : ByteArray} {l : List Ent} {j : Nat} (h : at? s l = some j) : (l[j]'(at?_lt h)).1 = s := by
  unfold at? at h
  obtain ⟨h1, h2, _⟩ := List.findIdx?_eq_some_iff_getElem.1 h
  simpa using h2
theorem ents_get {l : List Ent} {j : Nat} (h : j < l.length) : (ents l)[j]? = some { key := .string (l[j]).1, val := .pointer (some ⟨(l[j]).2.1, 0, none⟩), born := (l[j]).2.2 } := by
  simp [ents, h]

section
variable {P : Program} {T K E : TypeId} {w : World} {m : Nat} {l : List Ent} {clock : Nat}

theorem lookup_hit (hT : P.underlying T = some (.map K E)) (hK : P.underlying K = some .string) (hb : w.heap[m]? = some (.map (ents l) clock)) {s : ByteArray} {j : Nat} (h : at? s l = some j) :
    (Instr.lookup T (.map (some m)) (.string s) true).run P w = .ok (.tuple #[.pointer (some ⟨blkAt l j, 0, none⟩), .bool true]) w := by
  have hkey : MapKept.IsKey .string (.string s) := trivial
  have h1 := findNow_at s l
  rw [h] at h1
  simp [Instr.lookup, run_underlying hT, MapKept.run_getObj_map hb, MapKept.run_checkKey hK hkey, MapKept.run_findKey hK h1, Result.andThen]

theorem lookup_miss (hT : P.underlying T = some (.map K E)) (hK : P.underlying K = some .string) (hb : w.heap[m]? = some (.map (ents l) clock)) {s : ByteArray} (h : at? s l = none)
    (hz : (zeroValue E).run P w = .ok (.pointer none) w) :
    (Instr.lookup T (.map (some m)) (.string s) true).run P w = .ok (.tuple #[.pointer none, .bool false]) w := by
  have hkey : MapKept.IsKey .string (.string s) := trivial
  have h1 := findNow_at s l
  rw [h] at h1
  simp [Instr.lookup, run_underlying hT, MapKept.run_getObj_map hb, MapKept.run_checkKey hK hkey, MapKept.run_findKey hK h1, hz, Result.andThen]

open Go.ChangeMaps in
theorem update_miss (hT : P.underlying T = some (.map K E)) (hK : P.underlying K = some .string) (hb : w.heap[m]? = some (.map (ents l) clock)) {s : ByteArray} (h : at? s l = none) (b : Nat) :
    (Instr.mapUpdate T (.map (some m)) (.string s) (.pointer (some ⟨b, 0, none⟩))).run P w = .ok () (setBlock w m (.map (ents (l ++ [(s, b, clock)])) (clock + 1))) := by
  have hkey : MapKept.IsKey .string (.string s) := trivial
  have h1 := findNow_at s l
  rw [h] at h1
  have e : ents (l ++ [(s, b, clock)]) = (ents l).push ⟨.string s, .pointer (some ⟨b, 0, none⟩), clock⟩ := by simp [ents]
  rw [e]
  simp [Instr.mapUpdate, run_underlying hT, MapKept.run_getObj_map hb, MapKept.run_checkKey hK hkey, MapKept.run_findKey hK h1, MapKept.run_setObj_map _ hb, Result.andThen, setBlock]

/-- An entry's value is another one. -/
def putAt (l : List Ent) (j b : Nat) : List Ent := l.modify j fun x => (x.1, b, x.2.2)

open Go.ChangeMaps in
theorem update_hit (hT : P.underlying T = some (.map K E)) (hK : P.underlying K = some .string) (hb : w.heap[m]? = some (.map (ents l) clock)) {s : ByteArray} {j : Nat} (h : at? s l = some j) (b : Nat) :
    (Instr.mapUpdate T (.map (some m)) (.string s) (.pointer (some ⟨b, 0, none⟩))).run P w = .ok () (setBlock w m (.map (ents (putAt l j b)) clock)) := by
  have hkey : MapKept.IsKey .string (.string s) := trivial
  have h1 := findNow_at s l
  rw [h] at h1
  have hj := ents_get (at?_lt h)
  rw [at?_name h] at hj
  have e : ents (putAt l j b) = (ents l).modify j fun e => { e with key := .string s, val := .pointer (some ⟨b, 0, none⟩) } := by
    apply Array.ext'
    simp only [ents, putAt, Array.toList_modify]
    apply List.ext_getElem?
    intro i
    simp only [List.getElem?_map, List.getElem?_modify]
    by_cases e : j = i
    · subst e
      have := at?_name h
      simp [at?_lt h, this]
    · simp [e]
  rw [e]
  simp [Instr.mapUpdate, run_underlying hT, MapKept.run_getObj_map hb, MapKept.run_checkKey hK hkey, MapKept.run_findKey hK h1, hj, MapKept.run_keyThatStays hkey, MapKept.run_setObj_map _ hb, Result.andThen, setBlock]

open Go.ChangeMaps in
theorem delete_hit {ty : TypeId} (hT : P.underlying T = some (.map K E)) (hK : P.underlying K = some .string) (hb : w.heap[m]? = some (.map (ents l) clock)) {s : ByteArray} {j : Nat} (h : at? s l = some j) :
    (Builtin.delete_ #[T, K] ty #[.map (some m), .string s]).run P w = .ok (.tuple #[]) (setBlock w m (.map (ents (l.eraseIdx j)) clock)) := by
  have hkey : MapKept.IsKey .string (.string s) := trivial
  have h1 := findNow_at s l
  rw [h] at h1
  have e : ents (l.eraseIdx j) = (ents l).eraseIdxIfInBounds j := by
    have hl := at?_lt h
    apply Array.ext'
    have hs : j < (ents l).size := by simpa [ents] using hl
    unfold Array.eraseIdxIfInBounds
    rw [dif_pos hs, Array.toList_eraseIdx]
    simp only [ents, map_eraseIdx]
  rw [e]
  simp [Builtin.delete_, run_underlying hT, MapKept.run_getObj_map hb, MapKept.run_checkKey hK hkey, MapKept.run_findKey hK h1, MapKept.run_setObj_map _ hb, Result.andThen, setBlock]
end

open Go.ChangeMaps in
theorem heap_setBlock_self {w : World} {m : Nat} {o : Obj} (h : m < w.heap.size) : (setBlock w m o).heap[m]? = some o := by simp [setBlock, h]
open Go.ChangeMaps in
theorem heap_setBlock_ne {w : World} {m k : Nat} {o : Obj} (h : k ≠ m) : (setBlock w m o).heap[k]? = w.heap[k]? := by
  simp only [setBlock, Array.getElem?_setIfInBounds]; rw [if_neg (fun e => h e.symm)]
open Go.ChangeMaps in
theorem Keep.setBlock {F : Nat → Prop} (w : World) {m : Nat} (hm : F m) (o : Obj) : Keep F w (setBlock w m o) :=
  ⟨rfl, rfl, rfl, by simp [ChangeMaps.setBlock], fun k _ hn => heap_setBlock_ne fun e => hn (e ▸ hm)⟩

end Go.Proofs.YtebkmpgmcldeoaaDoor
