/- Version.Check, its first parts. -/
import Derived.Test.YtebkmpgmcldeoaaDoorSh
import Derived.Test.YtebkmpgmcldeoaaDoorSi
import Derived.Shelf.SlSortCmp.QuietGrown
namespace Go.Proofs.YtebkmpgmcldeoaaDoor
open Go Go.Proofs Go.RowKit Go.Sort
set_option linter.unusedVariables false

theorem Below.grow {B : Nat} {a W : World} (h : RowKit.Below B a W) (hB : B ≤ W.heap.size) (q : Nat) (os : Array Obj) : RowKit.Below B a (Go.Sort.grow (W.drewN q) os) :=
  h.trans ⟨rfl, rfl, rfl, by show W.heap.size ≤ (W.heap ++ os).size; simp, fun k hk => heap_grow_old (W.drewN q) os (Nat.lt_of_lt_of_le hk hB)⟩
theorem belowGrown {B : Nat} {a W : World} (h : RowKit.Below B a W) (hB : B ≤ W.heap.size) (q : Nat) (os : Array Obj) : RowKit.Below B a (Go.Sort.grow (W.drewN q) os) :=
  h.trans ⟨rfl, rfl, rfl, by show W.heap.size ≤ (W.heap ++ os).size; simp, fun k hk => heap_grow_old (W.drewN q) os (Nat.lt_of_lt_of_le hk hB)⟩
theorem below_grown (w : World) (q : Nat) (os : Array Obj)  : RowKit.Below w.heap.size w (Go.Sort.grow (w.drewN q) os) :=
  ⟨rfl, rfl, rfl, by show w.heap.size ≤ (w.heap ++ os).size; simp, fun k hk => heap_grow_old (w.drewN q) os hk⟩

instance : Inhabited Meta := ⟨⟨0, 0, ⟨#[]⟩, ⟨#[]⟩, 0⟩⟩
structure VersP where
  files : List Meta
  log : Int
  next : Int
  seq : Nat

def headOk (lg nx : Int) (sq : Nat) : Bool := decide (1 ≤ lg ∧ lg ≤ 1073741824 ∧ 1 ≤ nx ∧ nx ≤ 1073741824 ∧ (sq : Int) ≤ 72057594037927935)
/-- is a file right where it stands? -/
def fileOk (nx : Int) (l : List Meta) (k : Nat) : Bool := okM (l.getD k default) && decide ((l.getD k default).num < nx) && (k == 0 || decide ((l.getD (k - 1) default).num < (l.getD k default).num))
/-- are the neighbours apart? -/
def apartAt (l : List Meta) (k : Nat) : Bool := Op.bytesLess (l.getD k default).high.toList (l.getD (k + 1) default).low.toList
def apartL (l : List Meta) : Bool := (List.range (l.length - 1)).all (apartAt l)
def levelOk (l : List Meta) (n : Nat) : Bool := apartL (sortCf lowCf (ofL n l))
def checkR (v : VersP) : Int :=
  if headOk v.log v.next v.seq = false then 1 else if 1000 < v.files.length then 3 else
  if (List.range v.files.length).all (fileOk v.next v.files) = false then 1 else
  if (List.range' 1 5).all (levelOk v.files) = false then 1 else 0

set_option maxRecDepth 100000 in
theorem verCheck_head (w : World) (A : Option Addr) (n c : Nat) (lg nx : Int) (sq : Nat) (h : headOk lg nx sq = false) :
    Calls Tryd.prog 49 #[.agg #[.slice A n c, .int .i64 lg, .int .i64 nx, .int .u64 sq]] w fun e w' => e = .returned (.int .i64 1) ∧ Below w.heap.size w w' := by
  have hB := (Below.refl w.heap.size w).alloc (Nat.le_refl _) (.cells #[.slice A n c, .int .i64 lg, .int .i64 nx, .int .u64 sq] 37)
  have HH := Lib.hid h
  have HB := Lib.hid hB
  clear h hB
  go_enter Tryd.func49, Tryd.ntmps49
  go_upto_if 34 with fail
  all_goals first
  | (exfalso
     have := HH.out
     unfold headOk at this
     rw [decide_eq_false_iff_not] at this
     omega)
  | (go_wp2_with fail
     go_ret
     exact ⟨rfl, HB.out⟩)
  | skip


set_option maxRecDepth 100000 in
theorem verCheck_many (w : World) (A : Option Addr) (n c : Nat) (lg nx : Int) (sq : Nat) (h : headOk lg nx sq = true) (hn : 1000 < n) (hn2 : n ≤ 1000000) :
    Calls Tryd.prog 49 #[.agg #[.slice A n c, .int .i64 lg, .int .i64 nx, .int .u64 sq]] w fun e w' => e = .returned (.int .i64 3) ∧ Below w.heap.size w w' := by
  have hB := (Below.refl w.heap.size w).alloc (Nat.le_refl _) (.cells #[.slice A n c, .int .i64 lg, .int .i64 nx, .int .u64 sq] 37)
  unfold headOk at h
  rw [decide_eq_true_eq] at h
  obtain ⟨h1, h2, h3, h4, h5⟩ := h
  have HB := Lib.hid hB
  clear hB
  go_enter Tryd.func49, Tryd.ntmps49
  go_wp2
  go_ret
  exact ⟨rfl, HB.out⟩

end Go.Proofs.YtebkmpgmcldeoaaDoor
