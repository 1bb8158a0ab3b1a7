/- slices.symMergeCmpFunc of files, over any program that bears it. -/
import Derived.Test.YtebkmpgmcldeoaaDoorW
namespace Go.Proofs.YtebkmpgmcldeoaaDoor
open Go Go.Proofs Go.RowKit Go.Sort
set_option linter.unusedVariables false
variable {P : Program} {k : Nat} {α : Type} [Inhabited α]

/-- the first place of [i, j) at which p no longer holds -/
def bsearch (p : Nat → Bool) : Nat → Nat → Nat → Nat
  | 0, i, _ => i
  | f + 1, i, j => if i < j then (if p ((i + j) / 2) = true then bsearch p f ((i + j) / 2 + 1) j else bsearch p f i ((i + j) / 2)) else i
/-- the element at x goes up to y -/
def upR (y x : Nat) (d : Array α) : Array α := if x < y then upR y (x + 1) (swp d x (x + 1)) else d
termination_by y - x
/-- the element at x goes down to y -/
def downR (y : Nat) : Nat → Array α → Array α
  | 0, d => d
  | x + 1, d => if y < x + 1 then downR y x (swp d (x + 1) x) else d

set_option maxHeartbeats 4000000 in
set_option maxRecDepth 1000000 in
theorem sym1_any (L : SortP P k) (enc : α → List Value) (cf : α → α → Int) (g : Nat) (cb : Array Value) (blk off cap a b : Nat) (d0 d : Array α) (w0 w : World)
    (eg : ∀ args w, (callFunc g args).run P w = .ok (.enter g args) w) (hcmp : CmpLays P g cb enc k cf blk off d0.size w0)
    (R : RowK enc k w0 blk off d0) (hs : d0.size = d.size) (S : SWK enc k w0 blk off d w) (hab : a + 1 < b) (hb : b ≤ d.size) (hsz : d.size < 4611686018427387904) :
    Calls P 84 #[.slice (some ⟨blk, off, none⟩) d.size cap, .int .i64 a, .int .i64 ((a + 1 : Nat) : Int), .int .i64 b, .func (.func g) #[] cb] w fun e w' =>
      e = .returned (.tuple #[]) ∧ SWK enc k w0 blk off (upR (bsearch (fun h => ltOf cf d[h]! d[a]!) (b - (a + 1)) (a + 1) b - 1) a d) w' := by
  have mixed := L.mixed; have aE := L.aE; have zE := L.zE; have t0 := L.t0; have a0 := L.a0; have z0 := L.z0; have v0 := L.v0; have t3 := L.t3; have a3 := L.a3; have z3 := L.z3; have v3 := L.v3; have t4 := L.t4; have a4 := L.a4; have z4 := L.z4; have v4 := L.v4; have t34 := L.t34; have a34 := L.a34; have z34 := L.z34; have v34 := L.v34; have t96 := L.t96; have a96 := L.a96; have z96 := L.z96; have v96 := L.v96; have t104 := L.t104; have a104 := L.a104; have z104 := L.z104; have v104 := L.v104; have u34 := run_underlying L.t34
  have FG := L.f_sym
  have HC : Aside _ := hcmp
  have S0 : Aside (SWK enc k w0 blk off d w) := S
  clear S hcmp
  go_enter FG, Tryd.ntmps84
  have h1 : ((a : Int) + 1 - (a : Int) == 1) = true := by rw [beq_iff_eq]; omega
  go_wp2_with fail
  go_loopg [10, 11] b (fun kx s10 s11 wr => ∃ (i j f : Nat), s10 = .int .i64 i ∧ s11 = .int .i64 j ∧ a < i ∧ i ≤ j ∧ j ≤ b ∧ j - i ≤ kx ∧ j - i ≤ f ∧ Aside (SWK enc k w0 blk off d wr) ∧ Hid (bsearch (fun h => ltOf cf d[h]! d[a]!) f i j = bsearch (fun h => ltOf cf d[h]! d[a]!) (b - (a + 1)) (a + 1) b))
  case atStart => exact ⟨a + 1, b, b - (a + 1), rfl, rfl, by omega, by omega, by omega, by omega, by omega, S0, rfl⟩
  case round =>
    clear S0
    obtain ⟨i, j, f, rfl, rfl, hai, hij, hjb, hkx, hf, S1, HE⟩ := hrel
    by_cases hlt : i < j
    · obtain ⟨f, rfl⟩ : ∃ g, f = g + 1 := ⟨f - 1, by omega⟩
      go_wp2_with fail
      have hh0 : (((i : Int) + (j : Int)) / 2).toNat = (i + j) / 2 := by omega
      have hh1 : (0 : Int) ≤ ((i : Int) + (j : Int)) / 2 := by omega
      have hh2 : ((i : Int) + (j : Int)) / 2 < (d.size : Int) := by omega
      have ha0 : (a : Int) < (d.size : Int) := by omega
      have hx1 : ((i + j) / 2 : Nat) < d.size := by omega
      have hx2 : (i + j) / 2 < j := by omega
      have hx3 : i ≤ (i + j) / 2 := by omega
      have hx4 : ((((i + j) / 2 : Nat)) : Int) = ((i : Int) + (j : Int)) / 2 := by omega
      obtain ⟨h, hh⟩ : ∃ h, h = (i + j) / 2 := ⟨_, rfl⟩
      rw [← hh] at hh0 hx1 hx2 hx3 hx4
      obtain ⟨x24, hx24⟩ : ∃ x, x = d[h]! := ⟨_, rfl⟩
      obtain ⟨y24, hy24⟩ : ∃ x, x = d[a]! := ⟨_, rfl⟩
      have l24a := S1.out.ld R (by omega) P h (by omega)
      have l24b := S1.out.ld R (by omega) P a (by omega)
      rw [← hx24] at l24a
      rw [← hy24] at l24b
      have hc24 := S1.out.cmp HC.out (by omega) x24 y24
      have HB := Lib.hid (show bsearch (fun h => ltOf cf d[h]! d[a]!) (f + 1) i j = if decide (cf x24 y24 < 0) = true then bsearch (fun h => ltOf cf d[h]! d[a]!) f (h + 1) j else bsearch (fun h => ltOf cf d[h]! d[a]!) f i h by
        rw [bsearch, if_pos hlt, hh, hx24, hy24, hh]; rfl)
      clear hx24 hy24 hh
      by_cases hv24 : cf x24 y24 < 0
      · have hd24 : decide (cf x24 y24 < 0) = true := decide_eq_true hv24
        have HE2 := Lib.hid (HB.out.symm.trans HE.out)
        rw [hd24, if_pos rfl] at HE2
        go_wp2_with fail
        go_quiet_grown (first | (go_at_fn g; refine Calls.grown_of (hc24 _ _)))
        have S3 : Aside (SWK enc k w0 blk off d (grow (wr.drewN nq) osq)) := S1.out.grown nq osq
        clear l24a l24b hc24 S1
        generalize grow (wr.drewN nq) osq = w2 at S3 ⊢
        clear nq osq
        have hh5 : IntKind.i64.wrap (((i : Int) + (j : Int)) / 2 + 1) = ((i : Int) + (j : Int)) / 2 + 1 := by rw [IntKind.wrap_i64]; omega
        go_wp2
        go_roundg (j - (h + 1))
        case measure => omega
        case rel => exact ⟨h + 1, j, f, by congr 1; omega, rfl, by omega, by omega, by omega, by omega, by omega, S3, HE2⟩
      · have hd24 : decide (cf x24 y24 < 0) = false := decide_eq_false hv24
        have HE2 := Lib.hid (HB.out.symm.trans HE.out)
        rw [hd24, if_neg (by simp)] at HE2
        go_wp2_with fail
        go_quiet_grown (first | (go_at_fn g; refine Calls.grown_of (hc24 _ _)))
        have S3 : Aside (SWK enc k w0 blk off d (grow (wr.drewN nq) osq)) := S1.out.grown nq osq
        clear l24a l24b hc24 S1
        generalize grow (wr.drewN nq) osq = w2 at S3 ⊢
        clear nq osq
        go_wp2
        go_roundg (h - i)
        case measure => omega
        case rel => exact ⟨i, h, f, rfl, by congr 1; omega, by omega, by omega, by omega, by omega, by omega, S3, HE2⟩
    · have hE : i = bsearch (fun h => ltOf cf d[h]! d[a]!) (b - (a + 1)) (a + 1) b := by
        rw [← HE.out]; cases f with
        | zero => rfl
        | succ f => rw [bsearch, if_neg hlt]
      have HI := Lib.hid hE
      clear hE HE HC
      go_wp2
      go_loopg [13] b (fun kx s13 wr => ∃ (x : Nat) (dk : Array α), s13 = .int .i64 x ∧ a ≤ x ∧ x ≤ i ∧ i - x ≤ kx ∧ dk.size = d.size ∧ Aside (SWK enc k w0 blk off dk wr) ∧ Hid (upR (i - 1) x dk = upR (i - 1) a d))
      case atStart => exact ⟨a, d, rfl, Nat.le_refl _, by omega, by omega, rfl, S1, rfl⟩
      case round =>
        clear S1
        obtain ⟨x, dk, rfl, hax, hxi, hkx, hds, S1, HE⟩ := hrel
        by_cases hlx : x + 1 < i
        · have hlz : (x : Int) < (i : Int) - 1 := by omega
          have rr1 : IntKind.i64.wrap ((i : Int) - 1) = (i : Int) - 1 := by rw [IntKind.wrap_i64]; omega
          have ea44 : ((x : Int)).toNat = x := by omega
          have pa44 : (0 : Int) ≤ (x : Int) := by omega
          have ba44 : (x : Int) < (d.size : Int) := by omega
          have ec44 : ((x : Int) + 1).toNat = x + 1 := by omega
          have pc44 : (0 : Int) ≤ (x : Int) + 1 := by omega
          have bc44 : (x : Int) + 1 < (d.size : Int) := by omega
          have rc44 : IntKind.i64.wrap ((x : Int) + 1) = (x : Int) + 1 := by rw [IntKind.wrap_i64]; omega
          have S2 : Aside (SWK enc k w0 blk off (swp dk x (x + 1)) ((wr.drew.setCells blk (off + x * k) (enc dk[x + 1]!)).setCells blk (off + (x + 1) * k) (enc dk[x]!))) := S1.out.swapped R x (x + 1) (by omega) (by omega)
          have l44a := S1.out.ld1 R (by omega) P x (by omega)
          have l44b := S1.out.ld1 R (by omega) P (x + 1) (by omega)
          have s44a := S1.out.st1 R (by omega) P x (by omega) dk[x + 1]!
          have s44b := S1.out.st2 R (by omega) P x (x + 1) (by omega) (by omega) dk[x + 1]! dk[x]!
          have n44a : (enc dk[x]!).length = k := R.hk _
          have n44b : (enc dk[x + 1]!).length = k := R.hk _
          generalize enc dk[x]! = cI44 at S2 l44a s44b n44a
          generalize enc dk[x + 1]! = cJ44 at S2 l44b s44a s44b n44b
          clear S1
          go_wp2_with fail
          go_big_region_o
          clear l44a l44b s44a s44b
          generalize (wr.drew.setCells blk (off + x * k) cJ44).setCells blk (off + (x + 1) * k) cI44 = w2 at S2 ⊢
          go_wp2
          go_roundg (i - (x + 1))
          case measure => omega
          case rel =>
            have hE : upR (i - 1) x dk = upR (i - 1) (x + 1) (swp dk x (x + 1)) := by rw [upR, if_pos (by omega)]
            exact ⟨x + 1, swp dk x (x + 1), by go_num, by omega, by omega, Nat.le_refl _, by rw [size_swp]; exact hds, S2, (show Hid _ from by rw [← HE.out, hE]; exact rfl)⟩
        · have hlz : ¬ (x : Int) < (i : Int) - 1 := by omega
          have rr1 : IntKind.i64.wrap ((i : Int) - 1) = (i : Int) - 1 := by rw [IntKind.wrap_i64]; omega
          go_wp2
          (try simp only [Exit.inBlock, Exit.then])
          refine bodyPost_ret (results_none rfl _ _ _) rfl ?_
          refine ⟨rfl, ?_⟩
          rw [← HI.out, ← HE.out, upR, if_neg (by omega)]
          exact S1.out

set_option maxHeartbeats 4000000 in
set_option maxRecDepth 1000000 in
theorem sym2_any (L : SortP P k) (enc : α → List Value) (cf : α → α → Int) (g : Nat) (cb : Array Value) (blk off cap a m : Nat) (d0 d : Array α) (w0 w : World)
    (eg : ∀ args w, (callFunc g args).run P w = .ok (.enter g args) w) (hcmp : CmpLays P g cb enc k cf blk off d0.size w0)
    (R : RowK enc k w0 blk off d0) (hs : d0.size = d.size) (S : SWK enc k w0 blk off d w) (ham : a + 1 < m) (hb : m + 1 ≤ d.size) (hsz : d.size < 4611686018427387904) :
    Calls P 84 #[.slice (some ⟨blk, off, none⟩) d.size cap, .int .i64 a, .int .i64 m, .int .i64 ((m + 1 : Nat) : Int), .func (.func g) #[] cb] w fun e w' =>
      e = .returned (.tuple #[]) ∧ SWK enc k w0 blk off (downR (bsearch (fun h => !ltOf cf d[m]! d[h]!) (m - a) a m) m d) w' := by
  have mixed := L.mixed; have aE := L.aE; have zE := L.zE; have t0 := L.t0; have a0 := L.a0; have z0 := L.z0; have v0 := L.v0; have t3 := L.t3; have a3 := L.a3; have z3 := L.z3; have v3 := L.v3; have t4 := L.t4; have a4 := L.a4; have z4 := L.z4; have v4 := L.v4; have t34 := L.t34; have a34 := L.a34; have z34 := L.z34; have v34 := L.v34; have t96 := L.t96; have a96 := L.a96; have z96 := L.z96; have v96 := L.v96; have t104 := L.t104; have a104 := L.a104; have z104 := L.z104; have v104 := L.v104; have u34 := run_underlying L.t34
  have FG := L.f_sym
  have HC : Aside _ := hcmp
  have S0 : Aside (SWK enc k w0 blk off d w) := S
  clear S hcmp
  go_enter FG, Tryd.ntmps84
  have h1 : ((m : Int) - (a : Int) == 1) = false := by rw [beq_eq_false_iff_ne]; omega
  have h2 : ((m : Int) + 1 - (m : Int) == 1) = true := by rw [beq_iff_eq]; omega
  have h3 : IntKind.i64.wrap ((m : Int) - (a : Int)) = (m : Int) - (a : Int) := by rw [IntKind.wrap_i64]; omega
  go_wp2_with fail
  go_loopg [14, 15] m (fun kx s10 s11 wr => ∃ (i j f : Nat), s10 = .int .i64 i ∧ s11 = .int .i64 j ∧ a ≤ i ∧ i ≤ j ∧ j ≤ m ∧ j - i ≤ kx ∧ j - i ≤ f ∧ Aside (SWK enc k w0 blk off d wr) ∧ Hid (bsearch (fun h => !ltOf cf d[m]! d[h]!) f i j = bsearch (fun h => !ltOf cf d[m]! d[h]!) (m - a) a m))
  case atStart => exact ⟨a, m, m - a, rfl, rfl, by omega, by omega, by omega, by omega, by omega, S0, rfl⟩
  case round =>
    clear S0
    obtain ⟨i, j, f, rfl, rfl, hai, hij, hjb, hkx, hf, S1, HE⟩ := hrel
    by_cases hlt : i < j
    · obtain ⟨f, rfl⟩ : ∃ g, f = g + 1 := ⟨f - 1, by omega⟩
      go_wp2_with fail
      have hh0 : (((i : Int) + (j : Int)) / 2).toNat = (i + j) / 2 := by omega
      have hh1 : (0 : Int) ≤ ((i : Int) + (j : Int)) / 2 := by omega
      have hh2 : ((i : Int) + (j : Int)) / 2 < (d.size : Int) := by omega
      have ha0 : (m : Int) < (d.size : Int) := by omega
      have hx1 : ((i + j) / 2 : Nat) < d.size := by omega
      have hx2 : (i + j) / 2 < j := by omega
      have hx3 : i ≤ (i + j) / 2 := by omega
      have hx4 : ((((i + j) / 2 : Nat)) : Int) = ((i : Int) + (j : Int)) / 2 := by omega
      obtain ⟨h, hh⟩ : ∃ h, h = (i + j) / 2 := ⟨_, rfl⟩
      rw [← hh] at hh0 hx1 hx2 hx3 hx4
      obtain ⟨x24, hx24⟩ : ∃ x, x = d[m]! := ⟨_, rfl⟩
      obtain ⟨y24, hy24⟩ : ∃ x, x = d[h]! := ⟨_, rfl⟩
      have l24a := S1.out.ld R (by omega) P m (by omega)
      have l24b := S1.out.ld R (by omega) P h (by omega)
      rw [← hx24] at l24a
      rw [← hy24] at l24b
      have hc24 := S1.out.cmp HC.out (by omega) x24 y24
      have HB := Lib.hid (show bsearch (fun h => !ltOf cf d[m]! d[h]!) (f + 1) i j = if (!decide (cf x24 y24 < 0)) = true then bsearch (fun h => !ltOf cf d[m]! d[h]!) f (h + 1) j else bsearch (fun h => !ltOf cf d[m]! d[h]!) f i h by
        rw [bsearch, if_pos hlt, hh, hx24, hy24, hh]; rfl)
      clear hx24 hy24 hh
      by_cases hv24 : cf x24 y24 < 0
      · have hd24 : decide (cf x24 y24 < 0) = true := decide_eq_true hv24
        have HE2 := Lib.hid (HB.out.symm.trans HE.out)
        rw [hd24, if_neg (by simp)] at HE2
        go_wp2_with fail
        go_quiet_grown (first | (go_at_fn g; refine Calls.grown_of (hc24 _ _)))
        have S3 : Aside (SWK enc k w0 blk off d (grow (wr.drewN nq) osq)) := S1.out.grown nq osq
        clear l24a l24b hc24 S1
        generalize grow (wr.drewN nq) osq = w2 at S3 ⊢
        clear nq osq
        go_wp2
        go_roundg (h - i)
        case measure => omega
        case rel => exact ⟨i, h, f, rfl, by congr 1; omega, by omega, by omega, by omega, by omega, by omega, S3, HE2⟩
      · have hd24 : decide (cf x24 y24 < 0) = false := decide_eq_false hv24
        have HE2 := Lib.hid (HB.out.symm.trans HE.out)
        rw [hd24, if_pos (show (!false) = true from rfl)] at HE2
        go_wp2_with fail
        go_quiet_grown (first | (go_at_fn g; refine Calls.grown_of (hc24 _ _)))
        have S3 : Aside (SWK enc k w0 blk off d (grow (wr.drewN nq) osq)) := S1.out.grown nq osq
        clear l24a l24b hc24 S1
        generalize grow (wr.drewN nq) osq = w2 at S3 ⊢
        clear nq osq
        have hh5 : IntKind.i64.wrap (((i : Int) + (j : Int)) / 2 + 1) = ((i : Int) + (j : Int)) / 2 + 1 := by rw [IntKind.wrap_i64]; omega
        go_wp2
        go_roundg (j - (h + 1))
        case measure => omega
        case rel => exact ⟨h + 1, j, f, by congr 1; omega, rfl, by omega, by omega, by omega, by omega, by omega, S3, HE2⟩
    · have hE : i = bsearch (fun h => !ltOf cf d[m]! d[h]!) (m - a) a m := by
        rw [← HE.out]; cases f with
        | zero => rfl
        | succ f => rw [bsearch, if_neg hlt]
      have HI := Lib.hid hE
      clear hE HE HC
      go_wp2
      go_loopg [17] m (fun kx s13 wr => ∃ (x : Nat) (dk : Array α), s13 = .int .i64 x ∧ i ≤ x ∧ x ≤ m ∧ x - i ≤ kx ∧ dk.size = d.size ∧ Aside (SWK enc k w0 blk off dk wr) ∧ Hid (downR i x dk = downR i m d))
      case atStart => exact ⟨m, d, rfl, by omega, Nat.le_refl _, by omega, rfl, S1, rfl⟩
      case round =>
        clear S1
        obtain ⟨x, dk, rfl, hax, hxi, hkx, hds, S1, HE⟩ := hrel
        by_cases hlx : i < x
        · obtain ⟨x, rfl⟩ : ∃ y, x = y + 1 := ⟨x - 1, by omega⟩
          have ea44 : ((x : Int)).toNat = x := by omega
          have pa44 : (0 : Int) ≤ (x : Int) := by omega
          have ba44 : (x : Int) < (d.size : Int) := by omega
          have ra44 : IntKind.i64.wrap (x : Int) = (x : Int) := by rw [IntKind.wrap_i64]; omega
          have ec44 : ((x : Int) + 1).toNat = x + 1 := by omega
          have pc44 : (0 : Int) ≤ (x : Int) + 1 := by omega
          have bc44 : (x : Int) + 1 < (d.size : Int) := by omega
          have rc44 : IntKind.i64.wrap ((x : Int) + 1) = (x : Int) + 1 := by rw [IntKind.wrap_i64]; omega
          have hlz : (i : Int) < (x : Int) + 1 := by omega
          have S2 : Aside (SWK enc k w0 blk off (swp dk (x + 1) x) ((wr.drew.setCells blk (off + (x + 1) * k) (enc dk[x]!)).setCells blk (off + x * k) (enc dk[x + 1]!))) := S1.out.swapped R (x + 1) x (by omega) (by omega)
          have l44a := S1.out.ld1 R (by omega) P (x + 1) (by omega)
          have l44b := S1.out.ld1 R (by omega) P x (by omega)
          have s44a := S1.out.st1 R (by omega) P (x + 1) (by omega) dk[x]!
          have s44b := S1.out.st2 R (by omega) P (x + 1) x (by omega) (by omega) dk[x]! dk[x + 1]!
          have n44a : (enc dk[x + 1]!).length = k := R.hk _
          have n44b : (enc dk[x]!).length = k := R.hk _
          generalize enc dk[x + 1]! = cI44 at S2 l44a s44b n44a
          generalize enc dk[x]! = cJ44 at S2 l44b s44a s44b n44b
          clear S1
          go_wp2_with fail
          go_big_region_o
          clear l44a l44b s44a s44b
          generalize (wr.drew.setCells blk (off + (x + 1) * k) cJ44).setCells blk (off + x * k) cI44 = w2 at S2 ⊢
          go_wp2
          go_roundg (x - i)
          case measure => omega
          case rel =>
            have hE : downR i (x + 1) dk = downR i x (swp dk (x + 1) x) := by rw [downR, if_pos (by omega)]
            exact ⟨x, swp dk (x + 1) x, by first | rfl | go_num | (congr 1; omega), by omega, by omega, Nat.le_refl _, by rw [size_swp]; exact hds, S2, (show Hid _ from by rw [← HE.out, hE]; exact rfl)⟩
        · have hlz : ¬ (i : Int) < (x : Int) := by omega
          have hE : downR i x dk = dk := by cases x with
            | zero => rfl
            | succ x => rw [downR, if_neg (by omega)]
          have HE3 := Lib.hid (hE.symm.trans HE.out)
          clear hE
          go_wp2
          (try simp only [Exit.inBlock, Exit.then])
          refine bodyPost_ret (results_none rfl _ _ _) rfl ?_
          refine ⟨rfl, ?_⟩
          rw [← HI.out, ← HE3.out]
          exact S1.out

end Go.Proofs.YtebkmpgmcldeoaaDoor
