/- Names of files. -/
import Derived.Test.YtebkmpgmcldeoaaDoorG
import Derived.Lib.ConvBytes
namespace Go.Proofs.YtebkmpgmcldeoaaDoor
open Go.RowKit
set_option linter.unusedVariables false

theorem okByte_iff (c : UInt8) : PD.okByte c = true ↔ (97 ≤ c.toNat ∧ c.toNat ≤ 122) ∨ (48 ≤ c.toNat ∧ c.toNat ≤ 57) ∨ c.toNat = 46 := by
  unfold PD.okByte
  simp only [Bool.or_eq_true, Bool.and_eq_true, decide_eq_true_eq, beq_iff_eq, UInt8.le_iff_toNat_le]
  have : c = 46 ↔ c.toNat = 46 := by rw [← UInt8.toNat_inj]; rfl
  rw [this, or_assoc]
  rfl

theorem below_bytesWorld (w : World) (e : TypeId) (s : ByteArray) : Below w.heap.size w (Lib.bytesWorld w e s) :=
  ⟨by unfold Lib.bytesWorld World.freeze; rw [if_neg (by decide)]; rfl, by unfold Lib.bytesWorld World.freeze; rw [if_neg (by decide)]; rfl, by unfold Lib.bytesWorld World.freeze; rw [if_neg (by decide)]; rfl, by rw [Lib.bytesWorld_size]; omega, fun k hk => Lib.bytesWorld_at_old w e s k hk⟩

set_option maxHeartbeats 400000 in
set_option maxRecDepth 100000 in
theorem named_calls (w : World) (s : ByteArray) (hs : s.size ≤ maxLen) :
    Calls Tryd.prog 19 #[.string s] w fun e w' => e = .returned (.bool (PD.named s)) ∧ Below w.heap.size w w' := by
  have hcv := Lib.run_convert_string_bytes (P := Tryd.prog) w 9 22 5 s tyStr tyBytes tyU8
  have hcell := fun j hj => Lib.bytesWorld_cell w 5 s j hj
  have HB := Lib.hid (below_bytesWorld w 5 s)
  generalize Lib.bytesWorld w 5 s = wb at *
  generalize grownCap w s.size 0 5 = cap at *
  generalize w.heap.size = b at *
  have HC := Lib.hid hcell
  clear hcell
  unfold maxLen at hs
  go_enter Tryd.func19, Tryd.ntmps19
  go_wp2
  go_loop [8] (fun i => ∃ k : Nat, k ≤ s.size ∧ i = .int .i64 k ∧ (s.data.toList.take k).all PD.okByte = true) (fun i => s.size - (intOf i).toNat)
  case atStart => exact ⟨0, Nat.zero_le _, rfl, rfl⟩
  case round =>
    obtain ⟨k, hk, rfl, hall⟩ := hrel
    have HA := Lib.hid hall
    clear hall
    by_cases hlt : k < s.size
    · have hc := HC.out k hlt
      have HG := Lib.hid (show s.data.toList.take (k + 1) = s.data.toList.take k ++ [s.data.toList.getD k 0] by
        rw [List.take_add_one, List.getElem?_eq_getElem (by simpa using hlt)]; simp [List.getD, hlt])
      have HM := Lib.hid (show s.data.toList.getD k 0 ∈ s.data.toList by
        rw [List.getD_eq_getElem?_getD, List.getElem?_eq_getElem (by simpa using hlt)]; simp)
      generalize s.data.toList.getD k 0 = c at *
      have HO := Lib.hid (okByte_iff c)
      generalize hn : c.toNat = n at *
      have HN := Lib.hid hn
      clear hn
      by_cases h46 : n = 46
      all_goals
        first
          | (have hb46 : ((n : Int) != 46) = false := by rw [bne_eq_false_iff_eq]; omega
             have ha46 : 46 ≤ n := by omega
             have hc46 : n ≤ 46 := by omega
             clear h46
             go_wp2)
          | (have hb46 : ((n : Int) != 46) = true := by rw [bne_iff_ne]; omega
             have H46 := Lib.hid h46
             clear h46
             go_wp2)
      all_goals
        first
          | (go_ret
             refine ⟨?_, HB.out⟩
             have hb : PD.okByte c = false := by
               rw [Bool.eq_false_iff]; intro h
               have h1 := HO.out.1 h
               have h2 := H46.out
               omega
             rw [show PD.named s = false by
               unfold PD.named
               rw [show s.data.toList.all PD.okByte = false from List.all_eq_false.2 ⟨c, HM.out, by rw [hb]; exact Bool.false_ne_true⟩]; rfl]
             rfl)
          | (have hb : PD.okByte c = true := by
               rw [HO.out]
               omega
             refine ⟨⟨k + 1, by omega, by go_num, ?_⟩, by simp [intOf]; omega⟩
             rw [HG.out, List.all_append, HA.out, List.all_cons, hb]; rfl)
    · obtain rfl : k = s.size := by omega
      have hall : s.data.toList.all PD.okByte = true := by
        have := HA.out
        rwa [List.take_of_length_le (by simp)] at this
      have HN := Lib.hid (show PD.named s = (decide (0 < s.size) && decide (s.size ≤ 40)) by unfold PD.named; rw [hall, Bool.true_and])
      clear hall
      go_wp2
      · go_ret
        refine ⟨?_, HB.out⟩
        rw [HN.out, show decide (0 < s.size) = true from decide_eq_true ‹0 < s.size›, show decide (s.size ≤ 40) = decide ((s.size : Int) ≤ 40) from decide_eq_decide.2 (by omega)]
        rfl
      · go_ret
        refine ⟨?_, HB.out⟩
        rw [HN.out, show decide (0 < s.size) = false from decide_eq_false ‹¬ 0 < s.size›]
        rfl

end Go.Proofs.YtebkmpgmcldeoaaDoor
