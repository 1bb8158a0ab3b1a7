/- A text with its length ahead. -/
import Derived.Test.YtebkmpgmcldeoaaDoorV
namespace Go.Proofs.YtebkmpgmcldeoaaDoor
open Go.RowKit
set_option linter.unusedVariables false

/-- a text with its length ahead -/
def txtL (s : ByteArray) : List UInt8 := putL s.size ++ s.data.toList
theorem txtL_length (s : ByteArray) (h : s.size ≤ 128) : (txtL s).length ≤ 138 := by
  unfold txtL
  have := putL_len10 (n := s.size) (by omega)
  have h2 : s.data.toList.length = s.size := by rw [Array.length_toList]; rfl
  rw [List.length_append, h2]; omega

set_option maxHeartbeats 400000 in
set_option maxRecDepth 100000 in
theorem textL_calls (w : World) {v : Value} {l : List UInt8} (hown : OwnB w v l) (s : ByteArray) (hs : s.size ≤ 128) (hl : l.length ≤ 140737488350000) :
    Calls Tryd.prog 58 #[v, .string s] w fun e w' => ∃ v', e = .returned v' ∧ App w w' v v' (l ++ txtL s) := by
  have HO := Lib.hid hown
  have HT := Lib.hid (show l ++ txtL s = l ++ putL s.size ++ s.data.toList by unfold txtL; simp)
  rw [HT.out]
  have hp := putL_len10 (n := s.size) (by omega)
  clear hown
  go_enter Tryd.func58, Tryd.ntmps58
  go_wp2_with fail
  refine (put_calls _ HO.out s.size (by omega) (by omega)).mono ?_
  rintro e w1 ⟨v1, rfl, h1⟩
  have H1 := Lib.hid h1
  clear h1
  go_wp2_with (at_builtin; go_must (refine app_text w1 rfl _ _ rfl (v := v1) rfl H1.out.1 (t := s) rfl (by rw [List.length_append]; omega) ?_); intro A9 n9 c9 w2 hn9 HA2)
  go_ret
  exact ⟨_, rfl, H1.out.trans HA2.out⟩

end Go.Proofs.YtebkmpgmcldeoaaDoor
