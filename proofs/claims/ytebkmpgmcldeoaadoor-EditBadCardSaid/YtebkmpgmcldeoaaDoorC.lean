/- Checks of bytes. -/
import Derived.Test.YtebkmpgmcldeoaaDoorN
namespace Go.Proofs.YtebkmpgmcldeoaaDoor
open Go.RowKit
set_option linter.unusedVariables false

def halvesL : List Nat := [0, 274646895, 549293790, 820201905, 1098587580, 1361435347, 1640403810, 1905808397, 2197175160, 2460548119, 2722870694, 2987750089, 3280807620, 3553878443, 3811616794, 4084100981]
/-- The table of the checks stands where it is laid. -/
def Glob (w : World) : Prop := ∃ T fr, w.heap[0]? = some (.cells (halvesL.map fun n : Nat => Value.int .u32 (n : Int)).toArray T fr)
theorem Glob.keep {w w' : World} (h : Glob w) (hk : w'.heap[0]? = w.heap[0]?) : Glob w' := by
  obtain ⟨T, fr, h⟩ := h
  exact ⟨T, fr, hk.trans h⟩
theorem Glob.lt {w : World} (h : Glob w) : 0 < w.heap.size := by
  obtain ⟨T, fr, h⟩ := h
  exact lt_of_heap h
theorem Glob.below {w w' : World} (h : Glob w) (hb : Below w.heap.size w w') : Glob w' := h.keep (hb.block _ h.lt)
theorem Glob.keeps {w w' : World} {F : Nat → Prop} (h : Glob w) (hk : Keep F w w') (hF : ¬ F 0) : Glob w' := h.keep (hk.block _ h.lt hF)
theorem Glob.cell {w : World} (h : Glob w) (i : Nat) (hi : i < 16) : w.cell? ⟨0, i, none⟩ = some (.int .u32 (halvesL.getD i 0)) := by
  obtain ⟨T, fr, h⟩ := h
  rw [cell_of_heap h]
  have : i < halvesL.length := hi
  simp [List.getD, this]

def crcHalf (r : Nat) : Nat := (r / 16) ^^^ halvesL.getD (r % 16) 0
def crcByte (r : Nat) (c : UInt8) : Nat := crcHalf (crcHalf (r ^^^ c.toNat))
def crcMore (s : Nat) (l : List UInt8) : Nat := 4294967295 - l.foldl crcByte (4294967295 - s)
theorem halves_lt (i : Nat) : halvesL.getD i 0 < 4294967296 := by
  by_cases h : i < 16
  · have : ∀ i : Fin 16, halvesL.getD i.val 0 < 4294967296 := by decide +kernel
    exact this ⟨i, h⟩
  · rw [List.getD_eq_getElem?_getD, List.getElem?_eq_none (by show 16 ≤ i; omega)]; simp
theorem crcHalf_lt {r : Nat} (h : r < 4294967296) : crcHalf r < 4294967296 := by
  unfold crcHalf
  exact Nat.xor_lt_two_pow (n := 32) (by omega) (halves_lt _)
theorem crcByte_lt {r : Nat} (h : r < 4294967296) (c : UInt8) : crcByte r c < 4294967296 := by
  unfold crcByte
  exact crcHalf_lt (crcHalf_lt (Nat.xor_lt_two_pow (n := 32) (by omega) (by have := c.toNat_lt; omega)))
theorem crcFold_lt : ∀ (l : List UInt8) {r : Nat}, r < 4294967296 → l.foldl crcByte r < 4294967296
  | [], _, h => h
  | c :: l, _, h => crcFold_lt l (crcByte_lt h c)

theorem and15 (a : Nat) (h : a < 4294967296) : bits .and .u32 (a : Int) 15 = ((a % 16 : Nat) : Int) := by
  have := u32_and_nat a 15 h (by omega)
  rw [show (15 : Int) = ((15 : Nat) : Int) from rfl, this, Nat.and_two_pow_sub_one_eq_mod a 4]
theorem crc_half (a t : Nat) (h : a < 4294967296) (ht : t = halvesL.getD (a % 16) 0) : bits .xor .u32 ((a : Int) / 16) (t : Int) = ((crcHalf a : Nat) : Int) := by
  subst ht
  have := u32_xor_nat (a / 16) (halvesL.getD (a % 16) 0) (by omega) (halves_lt _)
  rw [show ((a : Int) / 16) = ((a / 16 : Nat) : Int) by omega, this]; rfl
theorem compl32 (s : Nat) (h : s < 4294967296) : bits .xor .u32 IntKind.u32.max (s : Int) = ((4294967295 - s : Nat) : Int) := by
  have := u32_xor_nat 4294967295 s (by omega) h
  rw [show IntKind.u32.max = ((4294967295 : Nat) : Int) from by decide +kernel, this]
  congr 1
  have h1 := BitVec.toNat_not (x := BitVec.ofNat 32 s)
  have h2 : ~~~(BitVec.ofNat 32 s) = BitVec.ofNat 32 4294967295 ^^^ BitVec.ofNat 32 s := by
    have := BitVec.xor_allOnes (x := BitVec.ofNat 32 s)
    rw [BitVec.xor_comm, ← this]; rfl
  rw [h2, BitVec.toNat_xor, BitVec.toNat_ofNat, BitVec.toNat_ofNat, Nat.mod_eq_of_lt (by omega), Nat.mod_eq_of_lt (by omega)] at h1
  exact h1

set_option maxHeartbeats 400000 in
set_option maxRecDepth 100000 in
theorem more_calls (w : World) (hG : Glob w) {v : Value} {l : List UInt8} (hr : RdB w v l) (s : Nat) (hs : s < 4294967296) (hl : l.length ≤ 140737488355000) :
    Calls Tryd.prog 62 #[.int .u32 s, v] w fun e w' => e = .returned (.int .u32 (crcMore s l)) ∧ w = w' := by
  have HC := Lib.hid (fun i hi => hG.cell i hi)
  have HR := Lib.hid hr
  have hc0 := compl32 s hs
  obtain ⟨s1, hs1⟩ : ∃ s1, s1 = 4294967295 - s := ⟨_, rfl⟩
  rw [← hs1] at hc0
  have HS := Lib.hid hs1
  have hs1' : s1 < 4294967296 := by omega
  obtain ⟨_, A, c, rfl, hc, hA, hcell⟩ := hr
  clear hG hcell hA hs1
  go_enter Tryd.func62, Tryd.ntmps62
  go_wp2
  go_loop [5, 12] (fun r i => ∃ (k n : Nat), k ≤ l.length ∧ i = .int .i64 k ∧ r = .int .u32 n ∧ n < 4294967296 ∧ Hid (n = (l.take k).foldl crcByte s1)) (fun _ i => l.length - (intOf i).toNat)
  case atStart => exact ⟨0, s1, Nat.zero_le _, rfl, rfl, hs1', Lib.hid rfl⟩
  case round =>
    obtain ⟨k, n, hk, rfl, rfl, hn, HN⟩ := hrel
    by_cases hlt : k < l.length
    · obtain ⟨a, rfl, hcell⟩ := RdB.at HR.out hlt
      have HT := Lib.hid (show l.take (k + 1) = l.take k ++ [l.getD k 0] by
        rw [List.take_add_one, List.getElem?_eq_getElem hlt]; simp [List.getD, hlt])
      generalize l.getD k 0 = x at *
      have hx := x.toNat_lt
      obtain ⟨y, hy⟩ : ∃ y, y = x.toNat := ⟨_, rfl⟩
      rw [← hy] at hcell hx
      have hy' : y < 256 := by omega
      obtain ⟨a0, ha0⟩ : ∃ a0, a0 = n ^^^ y := ⟨_, rfl⟩
      have ha0l : a0 < 4294967296 := by rw [ha0]; exact Nat.xor_lt_two_pow (n := 32) hn (by omega)
      have e0 : bits .xor .u32 (n : Int) (y : Int) = (a0 : Int) := by rw [ha0]; exact u32_xor_nat n y hn (by omega)
      obtain ⟨i0, hi0⟩ : ∃ i0, i0 = a0 % 16 := ⟨_, rfl⟩
      have e1 : bits .and .u32 (a0 : Int) 15 = (i0 : Int) := by rw [hi0]; exact and15 a0 ha0l
      have hi0l : i0 < 16 := by omega
      have hc0' := HC.out i0 hi0l
      obtain ⟨t0, ht0⟩ : ∃ t0, t0 = halvesL.getD i0 0 := ⟨_, rfl⟩
      rw [← ht0] at hc0'
      obtain ⟨a1, ha1⟩ : ∃ a1, a1 = crcHalf a0 := ⟨_, rfl⟩
      have ha1l : a1 < 4294967296 := by rw [ha1]; exact crcHalf_lt ha0l
      have e2 : bits .xor .u32 ((a0 : Int) / 16) (t0 : Int) = (a1 : Int) := by rw [ha1]; exact crc_half a0 t0 ha0l (by rw [ht0, hi0])
      obtain ⟨i1, hi1⟩ : ∃ i1, i1 = a1 % 16 := ⟨_, rfl⟩
      have e3 : bits .and .u32 (a1 : Int) 15 = (i1 : Int) := by rw [hi1]; exact and15 a1 ha1l
      have hi1l : i1 < 16 := by omega
      have hc1' := HC.out i1 hi1l
      obtain ⟨t1, ht1⟩ : ∃ t1, t1 = halvesL.getD i1 0 := ⟨_, rfl⟩
      rw [← ht1] at hc1'
      obtain ⟨a2, ha2⟩ : ∃ a2, a2 = crcHalf a1 := ⟨_, rfl⟩
      have ha2l : a2 < 4294967296 := by rw [ha2]; exact crcHalf_lt ha1l
      have e4 : bits .xor .u32 ((a1 : Int) / 16) (t1 : Int) = (a2 : Int) := by rw [ha2]; exact crc_half a1 t1 ha1l (by rw [ht1, hi1])
      have HE := Lib.hid (show a2 = crcByte n x by rw [ha2, ha1, ha0, hy]; rfl)
      clear ha0 hi0 ht0 ha1 hi1 ht1 ha2 hy
      go_wp2
      go_round
      case rel => exact ⟨k + 1, a2, by omega, by go_num, rfl, ha2l, Lib.hid (by rw [HE.out, HT.out, List.foldl_append, HN.out]; rfl)⟩
      case measure => simp [intOf]; omega
    · obtain rfl : k = l.length := by omega
      have hc2 := compl32 n hn
      go_wp2
      go_ret
      refine ⟨?_, rfl⟩
      have := HN.out
      rw [List.take_length] at this
      unfold crcMore
      rw [← HS.out, ← this]
      rfl

set_option maxHeartbeats 400000 in
theorem sum_calls (w : World) (hG : Glob w) {v : Value} {l : List UInt8} (hr : RdB w v l) (hl : l.length ≤ 140737488355000) :
    Calls Tryd.prog 43 #[v] w fun e w' => e = .returned (.int .u32 (crcMore 0 l)) ∧ w = w' := by
  have hc := more_calls w hG hr 0 (by omega) hl
  clear hG hr
  go_enter Tryd.func43, Tryd.ntmps43
  go_wp2_with (go_at_call 62; refine hc.mono ?_; rintro e w' ⟨rfl, rfl⟩)
  go_ret
  exact ⟨rfl, rfl⟩

def maskN (s : Nat) : Nat := ((s / 32768 ||| s * 131072 % 4294967296) + 2726488792) % 4294967296
theorem maskN_lt (s : Nat) : maskN s < 4294967296 := Nat.mod_lt _ (by omega)
set_option maxHeartbeats 400000 in
theorem mask_calls (w : World) (s : Nat) (hs : s < 4294967296) :
    Calls Tryd.prog 42 #[.int .u32 s] w fun e w' => e = .returned (.int .u32 (maskN s)) ∧ w = w' := by
  have e1 := u32_or_nat (s / 32768) (s * 131072 % 4294967296) (by omega) (by omega)
  rw [show ((s / 32768 : Nat) : Int) = (s : Int) / 32768 by omega, show ((s * 131072 % 4294967296 : Nat) : Int) = (s : Int) * 131072 % 4294967296 by omega] at e1
  obtain ⟨q, hq⟩ : ∃ q, q = (s / 32768 ||| s * 131072 % 4294967296) := ⟨_, rfl⟩
  rw [← hq] at e1
  have HQ := Lib.hid (show maskN s = (q + 2726488792) % 4294967296 by rw [hq]; rfl)
  clear hq
  go_enter Tryd.func42, Tryd.ntmps42
  go_wp2
  go_ret
  exact ⟨by rw [HQ.out]; rfl, rfl⟩

end Go.Proofs.YtebkmpgmcldeoaaDoor
