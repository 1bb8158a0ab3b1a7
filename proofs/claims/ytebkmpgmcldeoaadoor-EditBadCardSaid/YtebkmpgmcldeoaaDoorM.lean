/- Numbers as bytes, on. -/
import Derived.Test.YtebkmpgmcldeoaaDoorC
namespace Go.Proofs.YtebkmpgmcldeoaaDoor
open Go.RowKit
set_option linter.unusedVariables false

/-- the lowest bytes, so many, the lowest first -/
def leL : Nat → Nat → List UInt8
  | _, 0 => []
  | n, k + 1 => UInt8.ofNat (n % 256) :: leL (n / 256) k
theorem leL_length : ∀ (n k : Nat), (leL n k).length = k
  | _, 0 => rfl
  | n, k + 1 => by simp [leL, leL_length]
/-- the number of bytes, the lowest first -/
def leN : List UInt8 → Nat
  | [] => 0
  | c :: r => c.toNat + 256 * leN r
theorem leN_leL : ∀ (k n : Nat), n < 256 ^ k → leN (leL n k) = n
  | 0, n, h => by simp at h; subst h; rfl
  | k + 1, n, h => by
    have h1 := leN_leL k (n / 256) (by rw [Nat.pow_succ] at h; omega)
    have h2 : (UInt8.ofNat (n % 256)).toNat = n % 256 := UInt8.toNat_ofNat_of_lt' (show _ < 256 by omega)
    simp only [leL, leN, h1, h2]; omega
theorem leN_lt : ∀ (l : List UInt8), leN l < 256 ^ l.length
  | [] => by simp [leN]
  | c :: r => by
    have := leN_lt r
    have hc := c.toNat_lt
    simp only [leN, List.length_cons, Nat.pow_succ]; omega

set_option maxHeartbeats 400000 in
set_option maxRecDepth 100000 in
theorem little_calls (w : World) {v : Value} {l : List UInt8} (hown : OwnB w v l) (n k : Nat) (hn : n < 18446744073709551616) (hl : l.length + k ≤ 140737488355000) :
    Calls Tryd.prog 67 #[v, .int .u64 n, .int .i64 k] w fun e w' => ∃ v', e = .returned v' ∧ App w w' v v' (l ++ leL n k) := by
  have HL := Lib.hid hl
  have HO := Lib.hid (App.refl hown)
  have hk63 : k ≤ 140737488355000 := by omega
  clear hown hl
  go_enter Tryd.func67, Tryd.ntmps67
  go_wp2
  go_loopw [0, 1, 8] (fun v1 m i wr => ∃ (q j : Nat) (l1 : List UInt8), m = .int .u64 q ∧ i = .int .i64 j ∧ q < 18446744073709551616 ∧ j ≤ k ∧ Hid (App w wr v v1 l1) ∧ Hid (l1 ++ leL q (k - j) = l ++ leL n k)) (fun _ _ i _ => k - (intOf i).toNat)
  case atStart => exact ⟨n, 0, l, rfl, rfl, hn, Nat.zero_le _, HO, Lib.hid rfl⟩
  case round =>
    obtain ⟨q, j, l1, rfl, rfl, hq, hj, HA, HE⟩ := hrel
    have hlen : l1.length + (k - j) = l.length + k := by
      have h1 := congrArg List.length HE.out
      simp only [List.length_append, leL_length] at h1
      exact h1
    have hlen2 : l1.length ≤ 140737488355000 := by have := HL.out; omega
    clear hlen
    have HOW := Lib.hid (show OwnB wr u0 l1 from HA.out.1)
    by_cases h : j < k
    · have HB := Lib.hid (show ((q : Int) % 256) = ((UInt8.ofNat (q % 256)).toNat : Int) by rw [UInt8.toNat_ofNat_of_lt' (show _ < 256 by omega)]; omega)
      have HP := Lib.hid (show leL q (k - j) = UInt8.ofNat (q % 256) :: leL (q / 256) (k - (j + 1)) by
        obtain ⟨i, hi⟩ : ∃ i, k - j = i + 1 := ⟨k - j - 1, by omega⟩
        rw [hi, show k - (j + 1) = i by omega]; rfl)
      go_wp2_with (at_builtin; go_must (refine app_byte wr rfl _ _ rfl (v := u0) (l := l1) rfl HOW.out (UInt8.ofNat (q % 256)) HB.out rfl (by omega) ?_); intro A' n' c' w2 hn' HA2)
      go_roundw
      case rel => exact ⟨q / 256, j + 1, l1 ++ [UInt8.ofNat (q % 256)], rfl, by go_num, by omega, by omega, Lib.hid (HA.out.trans HA2.out), Lib.hid (by rw [← HE.out, HP.out]; simp)⟩
      case measure => simp [intOf]; omega
    · obtain rfl : j = k := by omega
      go_wp2
      go_ret
      refine ⟨_, rfl, HA.out.cast ?_⟩
      have := HE.out
      rw [Nat.sub_self] at this
      simpa [leL] using this

set_option maxHeartbeats 400000 in
theorem putLittle_calls (w : World) {v : Value} {l : List UInt8} (hown : OwnB w v l) (n k : Nat) (hn : n < 18446744073709551616) (hk : k ≤ 8) (hl : l.length ≤ 140737488354000) :
    Calls Tryd.prog 57 #[v, .int .u64 n, .int .i64 k] w fun e w' => ∃ v', e = .returned v' ∧ App w w' v v' (l ++ leL n k) := by
  have hc := little_calls w hown n k hn (by omega)
  clear hown
  by_cases h8 : k = 8
  · subst h8
    go_enter Tryd.func57, Tryd.ntmps57
    go_wp2_with (go_at_call 67; refine hc.mono ?_; rintro e w' ⟨v', rfl, h⟩; have H := Lib.hid h; clear h)
    go_ret
    exact ⟨v', rfl, H.out⟩
  · by_cases h0 : k = 0
    · subst h0
      go_enter Tryd.func57, Tryd.ntmps57
      go_wp2_with (go_at_call 67; refine hc.mono ?_; rintro e w' ⟨v', rfl, h⟩; have H := Lib.hid h; clear h)
      go_ret
      exact ⟨v', rfl, H.out⟩
    · have hk' : k < 8 := by omega
      have hk0 : 0 < k := by omega
      clear h8 h0 hk
      go_enter Tryd.func57, Tryd.ntmps57
      go_wp2_with (go_at_call 67; refine hc.mono ?_; rintro e w' ⟨v', rfl, h⟩; have H := Lib.hid h; clear h)
      go_ret
      exact ⟨v', rfl, H.out⟩

theorem or_low (a c : Nat) (ha : a * 256 < 18446744073709551616) (hc : c < 256) : bits .or .u64 ((a : Int) * 256) (c : Int) = ((a * 256 + c : Nat) : Int) := by
  have := u64_or_nat (a * 256) c ha (by omega)
  rw [show ((a : Int) * 256) = ((a * 256 : Nat) : Int) by omega, this]
  congr 1
  rw [show a * 256 = a <<< 8 by rw [Nat.shiftLeft_eq]]
  rw [Nat.shiftLeft_add_eq_or_of_lt (by omega)]

set_option maxHeartbeats 400000 in
set_option maxRecDepth 100000 in
theorem leN_calls (w : World) {v : Value} {l : List UInt8} (hr : RdB w v l) (hl : l.length ≤ 8) :
    Calls Tryd.prog 41 #[v] w fun e w' => e = .returned (.int .u64 (leN l)) ∧ w = w' := by
  have HR := Lib.hid hr
  obtain ⟨_, A, c, rfl, hc, hA, hcell⟩ := hr
  clear hA hcell
  go_enter Tryd.func41, Tryd.ntmps41
  go_wp2
  go_loop [3, 4] (fun m i => ∃ (q j : Nat), m = .int .u64 q ∧ i = .int .i64 ((j : Int) - 1) ∧ j ≤ l.length ∧ Hid (q < 256 ^ (l.length - j)) ∧ Hid (q = leN (l.drop j))) (fun _ i => (intOf i + 1).toNat)
  case atStart => exact ⟨0, l.length, rfl, rfl, Nat.le_refl _, Lib.hid (by simp), Lib.hid (by rw [List.drop_length]; rfl)⟩
  case round =>
    obtain ⟨q, j, rfl, rfl, hj, HB, HQ⟩ := hrel
    cases j with
    | zero =>
      have hz : ((0 : Nat) : Int) - 1 = -1 := rfl
      rw [hz]
      clear hz
      go_wp2
      go_ret
      refine ⟨?_, rfl⟩
      rw [show leN l = q from HQ.out.symm]
      rfl
    | succ j =>
      obtain ⟨a, rfl, hcell⟩ := RdB.at HR.out (show j < l.length by omega)
      have HD := Lib.hid (show l.drop j = l.getD j 0 :: l.drop (j + 1) by
        rw [List.drop_eq_getElem_cons (by omega)]; simp [List.getD, show j < l.length by omega])
      generalize l.getD j 0 = x at *
      have hx := x.toNat_lt
      obtain ⟨y, hy⟩ : ∃ y, y = x.toNat := ⟨_, rfl⟩
      rw [← hy] at hcell hx
      have hy' : y < 256 := by omega
      have hqb : q < 72057594037927936 := by
        have h1 := HB.out
        have h2 : 256 ^ (l.length - (j + 1)) ≤ 256 ^ 7 := Nat.pow_le_pow_right (by omega) (by omega)
        exact Nat.lt_of_lt_of_le h1 h2
      have e1 := or_low q y (by omega) hy'
      obtain ⟨q2, hq2⟩ : ∃ q2, q2 = q * 256 + y := ⟨_, rfl⟩
      rw [← hq2] at e1
      have HE := Lib.hid (show q2 = leN (l.drop j) by rw [hq2, HD.out, leN, ← HQ.out, hy]; omega)
      have HB2 := Lib.hid (show q2 < 256 ^ (l.length - j) by
        have h1 := HB.out
        rw [show l.length - j = (l.length - (j + 1)) + 1 by omega, Nat.pow_succ]; omega)
      have hq64 : (q : Int) * 256 < 18446744073709551616 := by omega
      clear hy hq2 hx
      rw [show (((j + 1 : Nat) : Int) - 1) = (j : Int) by omega]
      go_wp2
      go_round
      case rel => exact ⟨q2, j, rfl, rfl, by omega, HB2, HE⟩
      case measure => simp [intOf]

end Go.Proofs.YtebkmpgmcldeoaaDoor
