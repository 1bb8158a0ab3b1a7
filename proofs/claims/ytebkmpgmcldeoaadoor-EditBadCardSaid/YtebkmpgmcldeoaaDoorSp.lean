/- The names of lists and files. -/
import Derived.Test.YtebkmpgmcldeoaaDoorLib
import Derived.Test.YtebkmpgmcldeoaaDoorSj
namespace Go.Proofs.YtebkmpgmcldeoaaDoor
open Go Go.Proofs Go.RowKit Go.Sort
set_option linter.unusedVariables false

/-- the tables of the program lie as they are laid -/
structure Globs (w : World) : Prop where
  crc : Glob w
  pow : Lib.TabIs Tryd.prog w "internal/strconv.uint64pow10" .u64 Lib.pow10Tab
theorem gPow : Tryd.prog.globalNamed "internal/strconv.uint64pow10" = some 1 := by kernel_rfl
theorem Globs.lt {w : World} (h : Globs w) : 0 < w.heap.size ∧ 1 < w.heap.size := by
  refine ⟨h.crc.lt, ?_⟩
  have := h.pow
  unfold Lib.TabIs World.var? at this
  rw [gPow] at this
  simp only [Option.bind_some] at this
  rcases Nat.lt_or_ge 1 w.heap.size with h' | h'
  · exact h'
  · rw [Array.getElem?_eq_none h'] at this; cases this
theorem Globs.keep {w w' : World} (h : Globs w) (h0 : w'.heap[0]? = w.heap[0]?) (h1 : w'.heap[1]? = w.heap[1]?) : Globs w' := by
  refine ⟨h.crc.keep h0, ?_⟩
  have := h.pow
  unfold Lib.TabIs World.var? at this ⊢
  rw [gPow] at this ⊢
  simp only [Option.bind_some] at this ⊢
  rw [h1]; exact this
theorem Globs.below {w w' : World} (h : Globs w) (hb : RowKit.Below w.heap.size w w') : Globs w' := h.keep (hb.block _ h.lt.1) (hb.block _ h.lt.2)
theorem Globs.keeps {w w' : World} {F : Nat → Prop} (h : Globs w) (hk : Keep F w w') (h0 : ¬ F 0) (h1 : ¬ F 1) : Globs w' := h.keep (hk.block _ h.lt.1 h0) (hk.block _ h.lt.2 h1)

set_option maxRecDepth 100000 in
theorem itoa_calls (w : World) (hG : Globs w) (n : Nat) (hn : n ≤ 4294967296) :
    Calls Tryd.prog 22 #[.int .i64 n] w fun e w' => e = .returned (.string ⟨(Lib.decDigits n).toArray⟩) ∧ RowKit.Below w.heap.size w w' := by
  refine (Tryd.strconv_Itoa (n : Int) (by omega) (by omega) w hG.pow).mono ?_
  rintro e w' ⟨rfl, k, os, rfl⟩
  refine ⟨?_, below_grown w k os⟩
  have : Lib.itoa (n : Int) = Lib.decDigits n := by unfold Lib.itoa; rw [if_neg (by omega)]; rfl
  rw [this]

theorem decDigits_length : ∀ (k u : Nat), u < 10 ^ k → 0 < k → (Lib.decDigits u).length ≤ k
  | 0, u, _, h => by omega
  | k + 1, u, h, _ => by
    rw [Lib.decDigits]
    split
    · simp
    · rename_i hu
      have hk : 0 < k := by rcases Nat.eq_zero_or_pos k with e | e
                            · subst e; omega
                            · exact e
      have := decDigits_length k (u / 10) (by rw [Nat.div_lt_iff_lt_mul (by omega)]; rw [Nat.pow_succ] at h; exact h) hk
      simp; omega

def nameS (n : Nat) : ByteArray := ⟨#[109, 97, 110, 46]⟩ ++ ⟨(Lib.decDigits n).toArray⟩
def fileS (n : Nat) : ByteArray := ⟨#[102, 105, 108, 101, 46]⟩ ++ ⟨(Lib.decDigits n).toArray⟩
theorem nameS_size (n : Nat) (h : n ≤ 4294967296) : (nameS n).size ≤ 14 := by
  have := decDigits_length 10 n (by omega) (by omega)
  unfold nameS
  rw [ByteArray.size_append]
  show 4 + (Lib.decDigits n).toArray.size ≤ 14
  simp; omega

set_option maxRecDepth 100000 in
theorem name_calls (w : World) (hG : Globs w) (n : Nat) (hn : n ≤ 4294967296) :
    Calls Tryd.prog 8 #[.int .i64 n] w fun e w' => e = .returned (.string (nameS n)) ∧ RowKit.Below w.heap.size w w' := by
  have hcon := itoa_calls w hG n hn
  go_enter Tryd.func8, Tryd.ntmps8
  go_wp2_with fail
  refine hcon.mono ?_
  rintro e w' ⟨rfl, hB⟩
  have HB := Lib.hid hB
  clear hB
  have hdl := decDigits_length 10 n (by omega) (by omega)
  go_wp2
  go_ret
  exact ⟨rfl, HB.out⟩

set_option maxRecDepth 100000 in
theorem fileName_calls (w : World) (hG : Globs w) (n : Nat) (hn : n ≤ 4294967296) :
    Calls Tryd.prog 18 #[.int .i64 n] w fun e w' => e = .returned (.string (fileS n)) ∧ RowKit.Below w.heap.size w w' := by
  have hcon := itoa_calls w hG n hn
  go_enter Tryd.func18, Tryd.ntmps18
  go_wp2_with fail
  refine hcon.mono ?_
  rintro e w' ⟨rfl, hB⟩
  have HB := Lib.hid hB
  clear hB
  have hdl := decDigits_length 10 n (by omega) (by omega)
  go_wp2
  go_ret
  exact ⟨rfl, HB.out⟩

end Go.Proofs.YtebkmpgmcldeoaaDoor
