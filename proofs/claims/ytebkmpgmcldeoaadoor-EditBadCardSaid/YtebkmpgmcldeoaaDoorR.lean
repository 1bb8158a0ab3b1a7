/- Records. -/
import Derived.Test.YtebkmpgmcldeoaaDoorQ
namespace Go.Proofs.YtebkmpgmcldeoaaDoor
open Go.RowKit
set_option linter.unusedVariables false

/-- the check of bytes, masked -/
def chk (l : List UInt8) : Nat := maskN (crcMore 0 l)
theorem chk_lt (l : List UInt8) : chk l < 4294967296 := maskN_lt _
theorem crcMore_lt (s : Nat) (l : List UInt8) : crcMore s l < 4294967296 := by unfold crcMore; omega
/-- a record's head, and the record -/
def recHead (d : List UInt8) : List UInt8 := leL d.length 4 ++ leL (chk (leL d.length 4)) 4 ++ leL (chk d) 4
def recL (d : List UInt8) : List UInt8 := recHead d ++ d
theorem recHead_length (d : List UInt8) : (recHead d).length = 12 := by simp [recHead, leL_length]
theorem recL_length (d : List UInt8) : (recL d).length = 12 + d.length := by simp [recL, recHead_length]

theorem App.rd {w w' : World} {v v' x : Value} {l m : List UInt8} (h : App w w' v v' l) (hx : RdB w x m) (hb : ∀ k, x.ownBlock = some k → k < w.heap.size ∧ v.ownBlock ≠ some k) : RdB w' x m :=
  hx.keeps h.2.1 hb
theorem App.apart {w w' : World} {v v' x : Value} {l : List UInt8} (h : App w w' v v' l) (hb : ∀ k, x.ownBlock = some k → k < w.heap.size ∧ v.ownBlock ≠ some k) : ∀ k, x.ownBlock = some k → k < w'.heap.size ∧ v'.ownBlock ≠ some k := fun k hk =>
  ⟨Nat.lt_of_lt_of_le (hb k hk).1 h.2.1.size, fun e => (h.2.2 k e).elim (hb k hk).2 fun hle => by have := (hb k hk).1; omega⟩
theorem App.glob {w w' : World} {v v' : Value} {l : List UInt8} (h : App w w' v v' l) (hG : Glob w) (hv : v.ownBlock ≠ some 0) : Glob w' ∧ v'.ownBlock ≠ some 0 :=
  ⟨hG.keeps h.2.1 hv, fun e => (h.2.2 _ e).elim hv fun hle => by have := hG.lt; omega⟩

set_option maxHeartbeats 400000 in
theorem recPut_long (w : World) {v : Value} {l : List UInt8} (hown : OwnB w v l) {dv : Value} {d : List UInt8} (hd : RdB w dv d) (hlong : 1048576 < d.length) :
    Calls Tryd.prog 34 #[v, dv] w fun e w' => e = .returned (.tuple #[v, .int .i64 6]) ∧ w = w' := by
  obtain ⟨_, A, c, rfl, _⟩ := hd
  clear hown
  go_enter Tryd.func34, Tryd.ntmps34
  go_wp2
  go_ret2
  exact ⟨rfl, rfl⟩

set_option maxHeartbeats 800000 in
set_option maxRecDepth 100000 in
theorem recPut_calls (w : World) (hG : Glob w) {v : Value} {l : List UInt8} (hown : OwnB w v l) (hvG : v.ownBlock ≠ some 0) {dv : Value} {d : List UInt8} (hd : RdB w dv d)
    (hdv : ∀ k, dv.ownBlock = some k → k < w.heap.size ∧ v.ownBlock ≠ some k) (hl : l.length ≤ 70368744177664) (hdl : d.length ≤ 1048576) :
    Calls Tryd.prog 34 #[v, dv] w fun e w' => ∃ v', e = .returned (.tuple #[v', .int .i64 0]) ∧ App w w' v v' (l ++ recL d) := by
  have HG := Lib.hid hG
  have HO := Lib.hid hown
  have HVG := Lib.hid hvG
  have HD := Lib.hid hd
  have HDV := Lib.hid hdv
  obtain ⟨A, c, rfl, _, _⟩ := hown.rds.2
  obtain ⟨_, A', c', rfl, _⟩ := hd
  clear hG hown hvG hdv
  go_enter Tryd.func34, Tryd.ntmps34
  go_wp2_with fail
  refine (putLittle_calls _ HO.out d.length 4 (by omega) (by omega) (by omega)).mono ?_
  rintro e w1 ⟨v1, rfl, h1⟩
  obtain ⟨G1, V1⟩ := h1.glob HG.out HVG.out
  obtain ⟨x1, hs1, hr1, hb1⟩ := RdB.cut_l (h1.1.rds) l.length (by simp)
  rw [List.drop_left] at hr1
  have H1 := Lib.hid h1
  have HR1 := Lib.hid hr1
  have HG1 := Lib.hid G1
  have HV1 := Lib.hid V1
  clear h1 hr1 G1 V1 hb1
  go_wp2_with fail
  refine (sum_calls _ HG1.out HR1.out (by rw [leL_length]; omega)).mono ?_
  rintro e w' ⟨rfl, rfl⟩
  go_wp2_with fail
  refine (mask_calls _ _ (crcMore_lt _ _)).mono ?_
  rintro e w' ⟨rfl, rfl⟩
  obtain ⟨m1, hm1⟩ : ∃ m1, m1 = maskN (crcMore 0 (leL d.length 4)) := ⟨_, rfl⟩
  have hm1l : m1 < 4294967296 := by rw [hm1]; exact maskN_lt _
  rw [← hm1]
  have HM1 := Lib.hid hm1
  clear hm1
  go_wp2_with fail
  refine (putLittle_calls _ H1.out.1 m1 4 (by omega) (by omega) (by simp [leL_length]; omega)).mono ?_
  rintro e w2 ⟨v2, rfl, h2⟩
  have hx : App w w2 (.slice A l.length c) v2 _ := H1.out.trans h2
  obtain ⟨G2, V2⟩ := hx.glob HG.out HVG.out
  have HRD := Lib.hid (hx.rd HD.out HDV.out)
  have H2 := Lib.hid hx
  have HG2 := Lib.hid G2
  clear h2 hx G2 V2
  go_wp2_with fail
  refine (sum_calls _ HG2.out HRD.out (by omega)).mono ?_
  rintro e w' ⟨rfl, rfl⟩
  go_wp2_with fail
  refine (mask_calls _ _ (crcMore_lt _ _)).mono ?_
  rintro e w' ⟨rfl, rfl⟩
  obtain ⟨m2, hm2⟩ : ∃ m2, m2 = maskN (crcMore 0 d) := ⟨_, rfl⟩
  have hm2l : m2 < 4294967296 := by rw [hm2]; exact maskN_lt _
  rw [← hm2]
  have HM2 := Lib.hid hm2
  clear hm2
  go_wp2_with fail
  refine (putLittle_calls _ H2.out.1 m2 4 (by omega) (by omega) (by simp [leL_length]; omega)).mono ?_
  rintro e w3 ⟨v3, rfl, h3⟩
  have hx : App w w3 (.slice A l.length c) v3 _ := H2.out.trans h3
  have HRD3 := Lib.hid (hx.rd HD.out HDV.out)
  have HO3 := Lib.hid (show OwnB w3 v3 _ from hx.1)
  have H3 := Lib.hid hx
  clear h3 hx
  go_wp2_with (at_builtin; go_must (refine app_bytes _ rfl _ _ rfl (v := v3) rfl HO3.out (xv := .slice A' d.length c') rfl HRD3.out (by simp [leL_length]; omega) ?_); intro A9 n9 c9 w4 hn9 HA4)
  go_ret2
  refine ⟨_, rfl, (H3.out.trans HA4.out).cast ?_⟩
  rw [HM1.out, HM2.out]
  simp [recL, recHead, chk]

end Go.Proofs.YtebkmpgmcldeoaaDoor
