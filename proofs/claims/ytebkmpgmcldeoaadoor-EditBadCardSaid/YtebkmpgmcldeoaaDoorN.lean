/- Numbers as bytes. -/
import Derived.Test.YtebkmpgmcldeoaaDoorK
namespace Go.Proofs.YtebkmpgmcldeoaaDoor
open Go.RowKit
set_option linter.unusedVariables false

/-- What a call that lays bytes behind v leaves. -/
def App (w w' : World) (v v' : Value) (l : List UInt8) : Prop := OwnB w' v' l ∧ Keep (fun k => v.ownBlock = some k) w w' ∧ ∀ k, v'.ownBlock = some k → v.ownBlock = some k ∨ w.heap.size ≤ k

theorem App.refl {w : World} {v : Value} {l : List UInt8} (h : OwnB w v l) : App w w v v l := ⟨h, Keep.refl _ _, fun k hk => .inl hk⟩
theorem App.trans {w w1 w2 : World} {v v1 v2 : Value} {l1 l2 : List UInt8} (h : App w w1 v v1 l1) (k : App w1 w2 v1 v2 l2) : App w w2 v v2 l2 :=
  ⟨k.1, h.2.1.step k.2.1 h.2.2, fun i hi => (k.2.2 i hi).elim (h.2.2 i) fun hle => .inr (Nat.le_trans h.2.1.size hle)⟩
theorem App.grown {w w' : World} {v v' : Value} {l : List UInt8} (h : OwnB w' v' l) (hg : w.grownBy w' v.ownBlock) (hat : v'.ownBlock = v.ownBlock ∨ v'.ownBlock = some w.heap.size) : App w w' v v' l :=
  ⟨h, Keep.of_grown hg fun k hk => hk, fun k hk => hat.elim (fun e => .inl (e ▸ hk)) fun e => .inr (by rw [e] at hk; injection hk with hk; omega)⟩
theorem App.cast {w w' : World} {v v' : Value} {l l' : List UInt8} (h : App w w' v v' l) (e : l = l') : App w w' v v' l' := e ▸ h
/-- New blocks ahead of it. -/
theorem App.alloc {w w' : World} {v v' : Value} {l : List UInt8} (o : Obj) (h : App (w.alloc o) w' v v' l) (hv : ∀ k, v.ownBlock = some k → k < w.heap.size) : App w w' v v' l :=
  ⟨h.1, (Keep.alloc _ w o).trans h.2.1, fun k hk => (h.2.2 k hk).elim .inl fun hle => .inr (by simp at hle; omega)⟩

/-- seven bits a byte, the lowest first -/
def putL (n : Nat) : List UInt8 := if h : n < 128 then [UInt8.ofNat n] else UInt8.ofNat (n % 128 + 128) :: putL (n / 128)
termination_by n
decreasing_by omega
theorem putL_small {n : Nat} (h : n < 128) : putL n = [UInt8.ofNat n] := by unfold putL; rw [dif_pos h]
theorem putL_big {n : Nat} (h : ¬ n < 128) : putL n = UInt8.ofNat (n % 128 + 128) :: putL (n / 128) := by rw [putL]; rw [dif_neg h]
theorem putL_length (n : Nat) : (putL n).length ≤ n + 1 := by
  induction n using Nat.strongRecOn with
  | ind n ih =>
    by_cases h : n < 128
    · rw [putL_small h]; simp
    · rw [putL_big h]
      have := ih (n / 128) (by omega)
      simp only [List.length_cons]; omega
theorem putL_length' : ∀ (k n : Nat), n < 128 ^ k → 0 < k → (putL n).length ≤ k
  | 0, n, h, hk => by omega
  | k + 1, n, h, _ => by
    by_cases hn : n < 128
    · rw [putL_small hn]; simp
    · rw [putL_big hn]
      have hk : 0 < k := by
        rcases Nat.eq_zero_or_pos k with rfl | hk
        · simp at h; omega
        · exact hk
      have := putL_length' k (n / 128) (by rw [Nat.pow_succ] at h; omega) hk
      simp only [List.length_cons]; omega
theorem putL_len10 {n : Nat} (h : n < 18446744073709551616) : (putL n).length ≤ 10 := putL_length' 10 n (by omega) (by omega)

/-- One byte in a new array of its own, as the source of an append. -/
theorem rds_byte (w : World) (b : UInt8) (x : Int) (hx : x = b.toNat) : RdB (w.alloc (.cells #[.int .u8 x] 5)) (.slice (some ⟨w.heap.size, 0, none⟩) 1 1) [b] := by
  subst hx
  exact (Own.made (e := 5) (size := 1) (n := 1) w #[.int .u8 b.toNat] rfl (by unfold maxLen; omega)).rds

theorem app_bytes (w : World) {ops : Array Oper} {rest : List Oper} {o : Oper} {a : Act} {Q : Exit → Act → World → Prop} (hgd : o.guard = none) (s x : Operand)
    (ho : o.op = .call { callee := .builtin .append, args := #[s, x], argTypes := #[22, 22] })
    {v : Value} {l : List UInt8} (hs : a.eval s = v) (hown : OwnB w v l) {xv : Value} {m : List UInt8} (hx : a.eval x = xv) (hsrc : RdB w xv m)
    (h63 : l.length + m.length ≤ 140737488355328)
    (h : ∀ A' n' c' w', Hid (n' = l.length + m.length) → Hid (App w w' v (.slice A' n' c') (l ++ m)) → wpList Tryd.prog ops Q rest (a.put o.dst (.slice A' n' c')) w') : wpList Tryd.prog ops Q (o :: rest) a w :=
  append_bytes w hgd s x ho hs hown hx hsrc h63 fun A' n' c' w' h1 h2 h3 h4 => h A' n' c' w' h1 (Lib.hid (App.grown h2 h3 h4))
theorem app_text (w : World) {ops : Array Oper} {rest : List Oper} {o : Oper} {a : Act} {Q : Exit → Act → World → Prop} (hgd : o.guard = none) (s x : Operand)
    (ho : o.op = .call { callee := .builtin .append, args := #[s, x], argTypes := #[22, 9] })
    {v : Value} {l : List UInt8} (hs : a.eval s = v) (hown : OwnB w v l) {t : ByteArray} (hx : a.eval x = .string t)
    (h63 : l.length + t.size ≤ 140737488355328)
    (h : ∀ A' n' c' w', Hid (n' = l.length + t.size) → Hid (App w w' v (.slice A' n' c') (l ++ t.data.toList)) → wpList Tryd.prog ops Q rest (a.put o.dst (.slice A' n' c')) w') : wpList Tryd.prog ops Q (o :: rest) a w :=
  append_text w hgd s x ho hs hown hx h63 fun A' n' c' w' h1 h2 h3 h4 => h A' n' c' w' h1 (Lib.hid (App.grown h2 h3 h4))
/-- append(b, c) of one byte. -/
theorem app_byte (w : World) {ops : Array Oper} {rest : List Oper} {o : Oper} {a : Act} {Q : Exit → Act → World → Prop} (hgd : o.guard = none) (s x : Operand)
    (ho : o.op = .call { callee := .builtin .append, args := #[s, x], argTypes := #[22, 22] })
    {v : Value} {l : List UInt8} (hs : a.eval s = v) (hown : OwnB w v l) {y : Int} (c : UInt8) (hc : y = c.toNat) (hx : a.eval x = .slice (some ⟨w.heap.size, 0, none⟩) 1 1)
    (h63 : l.length + 1 ≤ 140737488355328)
    (h : ∀ A' n' c' w', Hid (n' = l.length + 1) → Hid (App w w' v (.slice A' n' c') (l ++ [c])) → wpList Tryd.prog ops Q rest (a.put o.dst (.slice A' n' c')) w') : wpList Tryd.prog ops Q (o :: rest) a (w.alloc (.cells #[.int .u8 y] 5)) :=
  app_bytes _ hgd s x ho hs (hown.keep fun k hk => Below.heap_alloc _ _ _ (hown.lt k hk)) hx (rds_byte w c y hc) h63 fun A' n' c' w' h1 h2 => h A' n' c' w' h1 (Lib.hid (h2.out.alloc _ (hown.lt)))

theorem or128 (m : Nat) : bits BinOp.or IntKind.u8 ((m : Int) % 256) 128 = ((UInt8.ofNat (m % 128 + 128)).toNat : Int) := by
  have h1 := u8_or_nat (m % 256) 128 (by omega) (by omega)
  have h2 : ∀ x : Fin 256, (x.val ||| 128) = x.val % 128 + 128 := by decide +kernel
  have h3 := h2 ⟨m % 256, by omega⟩
  simp only at h3
  rw [show ((m : Int) % 256) = ((m % 256 : Nat) : Int) by omega, show (128 : Int) = ((128 : Nat) : Int) from rfl, h1, h3]
  rw [UInt8.toNat_ofNat_of_lt' (show _ < 256 by omega)]
  omega

set_option maxHeartbeats 400000 in
set_option maxRecDepth 100000 in
theorem put_calls (w : World) {v : Value} {l : List UInt8} (hown : OwnB w v l) (n : Nat) (hn : n < 18446744073709551616) (hl : l.length ≤ 140737488355000) :
    Calls Tryd.prog 51 #[v, .int .u64 n] w fun e w' => ∃ v', e = .returned v' ∧ App w w' v v' (l ++ putL n) := by
  have HL := Lib.hid hl
  have HN := Lib.hid (putL_len10 hn)
  have HO := Lib.hid (App.refl hown)
  clear hown hl
  go_enter Tryd.func51, Tryd.ntmps51
  go_wp2
  go_loopw [0, 1] (fun v1 i wr => ∃ (m : Nat) (l1 : List UInt8), i = .int .u64 m ∧ m ≤ n ∧ Hid (App w wr v v1 l1) ∧ Hid (l1 ++ putL m = l ++ putL n)) (fun _ i _ => (intOf i).toNat)
  case atStart => exact ⟨n, l, rfl, Nat.le_refl _, HO, Lib.hid rfl⟩
  case round =>
    obtain ⟨m, l1, rfl, hm, HA, HE⟩ := hrel
    have hlen : l1.length ≤ 140737488355010 := by
      have h1 := congrArg List.length HE.out
      have := HL.out; have := HN.out
      simp only [List.length_append] at h1
      omega
    have HOW := Lib.hid (show OwnB wr u0 l1 from HA.out.1)
    by_cases h : m < 128
    · have hb : (m : Int) = ((UInt8.ofNat m).toNat : Int) := by simp; omega
      have HB := Lib.hid hb
      have HP := Lib.hid (putL_small h)
      clear hb
      go_wp2_with (at_builtin; go_must (refine app_byte wr rfl _ _ rfl (v := u0) (l := l1) rfl HOW.out (UInt8.ofNat m) HB.out rfl (by omega) ?_); intro A' n' c' w2 hn' HA2)
      go_ret
      exact ⟨_, rfl, (HA.out.trans HA2.out).cast (by rw [← HE.out, HP.out])⟩
    · have HB := Lib.hid (or128 m)
      have HP := Lib.hid (putL_big h)
      go_wp2_with (at_builtin; go_must (refine app_byte wr rfl _ _ rfl (v := u0) (l := l1) rfl HOW.out (UInt8.ofNat (m % 128 + 128)) HB.out rfl (by omega) ?_); intro A' n' c' w2 hn' HA2)
      go_roundw
      case rel => exact ⟨m / 128, l1 ++ [UInt8.ofNat (m % 128 + 128)], rfl, by omega, Lib.hid (HA.out.trans HA2.out), Lib.hid (by rw [← HE.out, HP.out]; simp)⟩
      case measure => simp [intOf]; omega

end Go.Proofs.YtebkmpgmcldeoaaDoor
