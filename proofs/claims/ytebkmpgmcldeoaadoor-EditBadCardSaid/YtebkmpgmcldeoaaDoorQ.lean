/- Numbers as bytes: Get. -/
import Derived.Test.YtebkmpgmcldeoaaDoorM
namespace Go.Proofs.YtebkmpgmcldeoaaDoor
open Go.RowKit
set_option linter.unusedVariables false

def getAux : Nat → Nat → List UInt8 → Nat × Nat × Nat
  | _, _, [] => (0, 0, 8)
  | i, n, c :: r => if i = 9 ∧ 1 < c.toNat then (0, 0, 2) else if c.toNat < 128 then (if c.toNat = 0 ∧ 0 < i then (0, 0, 2) else (n + c.toNat * 128 ^ i, i + 1, 0)) else getAux (i + 1) (n + (c.toNat % 128) * 128 ^ i) r
/-- the number that bytes begin with, how many bytes it has; the error -/
def getL (l : List UInt8) : Nat × Nat × Nat := getAux 0 0 l

theorem and127 (y : Nat) (h : y < 256) : bits .and .u8 (y : Int) 127 = ((y % 128 : Nat) : Int) := by
  have := u8_and_nat y 127 h (by omega)
  rw [show (127 : Int) = ((127 : Nat) : Int) from rfl, this, Nat.and_two_pow_sub_one_eq_mod y 7]

theorem or_hi (q y k : Nat) (hk : k ≤ 9) (hq : q < 128 ^ k) (hb : y * 128 ^ k < 18446744073709551616) : bits .or .u64 (q : Int) (IntKind.u64.wrap ((y : Int) * 2 ^ (7 * k))) = ((q + y * 128 ^ k : Nat) : Int) := by
  have hp : 2 ^ (7 * k) = 128 ^ k := by rw [Nat.pow_mul]
  have hc : ((y : Int) * 2 ^ (7 * k)) = ((y * 128 ^ k : Nat) : Int) := by rw [← hp]; push_cast; rfl
  have hw : IntKind.u64.wrap ((y : Int) * 2 ^ (7 * k)) = ((y * 128 ^ k : Nat) : Int) := by rw [hc]; exact IntWalk.u64_in _ (by omega)
  rw [hw]
  rcases Nat.eq_zero_or_pos y with rfl | hy
  · have := u64_or_nat q 0
    rw [Nat.zero_mul]
    have hq2 : q < 18446744073709551616 := Nat.lt_of_lt_of_le hq (Nat.le_trans (Nat.pow_le_pow_right (by omega) hk) (by omega))
    rw [this hq2 (by omega)]; simp
  · have hq2 : q < 18446744073709551616 := Nat.lt_of_lt_of_le hq (Nat.le_trans (Nat.le_mul_of_pos_left _ hy) (Nat.le_of_lt hb))
    rw [u64_or_nat q _ hq2 hb]
    congr 1
    rw [Nat.or_comm, ← hp, ← Nat.shiftLeft_eq, ← Nat.shiftLeft_add_eq_or_of_lt (by rw [hp]; exact hq)]
    omega

set_option maxHeartbeats 800000 in
set_option maxRecDepth 100000 in
theorem get_calls (w : World) {v : Value} {l : List UInt8} (hr : RdB w v l) (hl : l.length ≤ 140737488355328) :
    Calls Tryd.prog 26 #[v] w fun e w' => e = .returned (.tuple #[.int .u64 (getL l).1, .int .i64 (getL l).2.1, .int .i64 (getL l).2.2]) ∧ w = w' := by
  have HR := Lib.hid hr
  obtain ⟨_, A, c, rfl, hc, hA, hcell⟩ := hr
  clear hA hcell
  go_enter Tryd.func26, Tryd.ntmps26
  go_wp2
  go_loop [5, 10] (fun m i => ∃ (q k : Nat), m = .int .u64 q ∧ i = .int .i64 k ∧ k ≤ l.length ∧ k ≤ 9 ∧ Hid (q < 128 ^ k) ∧ Hid (getAux k q (l.drop k) = getL l)) (fun _ i => l.length - (intOf i).toNat)
  case atStart => exact ⟨0, 0, rfl, rfl, Nat.zero_le _, by omega, Lib.hid (by simp), Lib.hid rfl⟩
  case round =>
    obtain ⟨q, k, rfl, rfl, hk, hk9, HB, HQ⟩ := hrel
    by_cases hlt : k < l.length
    · obtain ⟨a, rfl, hcell⟩ := RdB.at HR.out hlt
      have HD := Lib.hid (show l.drop k = l.getD k 0 :: l.drop (k + 1) by
        rw [List.drop_eq_getElem_cons hlt]; simp [List.getD, hlt])
      generalize l.getD k 0 = x at *
      have hx := x.toNat_lt
      obtain ⟨y, hy⟩ : ∃ y, y = x.toNat := ⟨_, rfl⟩
      rw [← hy] at hcell hx
      have hy' : y < 256 := by omega
      have e0 := and127 y hy'
      obtain ⟨y7, hy7⟩ : ∃ y7, y7 = y % 128 := ⟨_, rfl⟩
      rw [← hy7] at e0
      have hy7l : y7 < 128 := by omega
      obtain ⟨q2, hq2⟩ : ∃ q2, q2 = q + y7 * 128 ^ k := ⟨_, rfl⟩
      have HS := Lib.hid (show getL l = if k = 9 ∧ 1 < y then (0, 0, 2) else if y < 128 then (if y = 0 ∧ 0 < k then (0, 0, 2) else (q2, k + 1, 0)) else getAux (k + 1) q2 (l.drop (k + 1)) by
        rw [← HQ.out, HD.out, getAux, hq2, hy7, hy]
        by_cases h128 : x.toNat < 128
        · rw [Nat.mod_eq_of_lt h128]
        · simp only [if_neg h128])
      have HB2 := Lib.hid (show q2 < 128 ^ (k + 1) by
        have h1 := HB.out
        rw [hq2, Nat.pow_succ]
        have : y7 * 128 ^ k ≤ 127 * 128 ^ k := Nat.mul_le_mul_right _ (by omega)
        omega)
      by_cases h9 : k = 9
      · by_cases hy1 : 1 < y
        · have hb9 : ((k : Int) == 9) = true := by rw [beq_iff_eq]; omega
          have HF := Lib.hid (show getL l = (0, 0, 2) by rw [HS.out, if_pos ⟨h9, hy1⟩])
          clear hy hy7 hx h9 hq2
          go_wp2
          go_ret3
          exact ⟨by rw [HF.out]; rfl, rfl⟩
        · have e1 := or_hi q y7 k hk9 HB.out (by
            rw [h9]; have : y7 ≤ 1 := by omega
            exact Nat.lt_of_le_of_lt (Nat.mul_le_mul_right _ this) (by omega))
          rw [← hq2] at e1
          have hb9 : ((k : Int) == 9) = true := by rw [beq_iff_eq]; omega
          have hk0 : 0 < k := by omega
          have hy128 : y < 128 := by omega
          have HS2 := Lib.hid (show getL l = if y = 0 then (0, 0, 2) else (q2, k + 1, 0) by
            rw [HS.out, if_neg (by omega), if_pos hy128]; simp only [hk0, and_true])
          clear hy hy7 hx h9 hq2
          go_wp2
          all_goals
            go_ret3
            refine ⟨?_, rfl⟩
            first
              | (rw [show getL l = (0, 0, 2) by rw [HS2.out, if_pos (by omega)]]; rfl)
              | (rw [show getL l = (q2, k + 1, 0) by rw [HS2.out, if_neg (by omega)]]; rfl)
      · have hb9 : ((k : Int) == 9) = false := by rw [beq_eq_false_iff_ne]; omega
        have hk8 : k < 9 := by omega
        have e1 := or_hi q y7 k hk9 HB.out (by
          have h1 : 128 ^ k ≤ 128 ^ 8 := Nat.pow_le_pow_right (by omega) (by omega)
          exact Nat.lt_of_le_of_lt (Nat.mul_le_mul (show y7 ≤ 127 by omega) h1) (by omega))
        rw [← hq2] at e1
        have HS2 := Lib.hid (show getL l = if y < 128 then (if y = 0 ∧ 0 < k then (0, 0, 2) else (q2, k + 1, 0)) else getAux (k + 1) q2 (l.drop (k + 1)) by
          rw [HS.out, if_neg (by omega)])
        clear hy hy7 hx h9 hq2
        go_wp2
        · go_ret3
          refine ⟨?_, rfl⟩
          rw [show getL l = (0, 0, 2) by rw [HS2.out, if_pos (by omega), if_pos (by omega)]]; rfl
        · go_ret3
          refine ⟨?_, rfl⟩
          rw [show getL l = (q2, k + 1, 0) by rw [HS2.out, if_pos (by omega), if_neg (by omega)]]; rfl
        · go_ret3
          refine ⟨?_, rfl⟩
          rw [show getL l = (q2, k + 1, 0) by rw [HS2.out, if_pos (by omega), if_neg (by omega)]]; rfl
        · go_round
          case rel => exact ⟨q2, k + 1, rfl, by go_num, by omega, by omega, HB2, Lib.hid (by rw [HS2.out, if_neg (by omega)])⟩
          case measure => simp [intOf]; omega
    · obtain rfl : k = l.length := by omega
      have HF := Lib.hid (show getL l = (0, 0, 8) by rw [← HQ.out, List.drop_length]; rfl)
      go_wp2
      go_ret3
      exact ⟨by rw [HF.out]; rfl, rfl⟩

end Go.Proofs.YtebkmpgmcldeoaaDoor
