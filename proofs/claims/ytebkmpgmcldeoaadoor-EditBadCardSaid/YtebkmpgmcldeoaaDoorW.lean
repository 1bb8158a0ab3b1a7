/- slices.SortStableFunc of files: its inner functions, over any program that bears them. -/
import Derived.Test.YtebkmpgmcldeoaaDoorV
import Derived.Shelf.SlSortCmp.KitK
import Derived.Deep.LoopGhost
namespace Go.Proofs.YtebkmpgmcldeoaaDoor
open Go Go.Proofs Go.RowKit Go.Sort
set_option linter.unusedVariables false

/-- A program that bears the sort's functions, at an element of k cells. -/
structure SortP (P : Program) (k : Nat) : Prop where
  mixed : P.follows Departure.mixedOrders = true
  f_ins : P.funcs[83]? = some Tryd.f83
  f_sym : P.funcs[84]? = some Tryd.f84
  f_rot : P.funcs[96]? = some Tryd.f96
  f_swr : P.funcs[100]? = some Tryd.f100
  f_stb : P.funcs[64]? = some Tryd.f64
  f_top : P.funcs[47]? = some Tryd.f47
  t0 : P.underlying 0 = some (TypeDesc.tuple #[])
  a0 : ∀ w, (isAgg 0).run P w = .ok false w
  z0 : ∀ w, (Go.sizeOf 0).run P w = .ok 1 w
  v0 : ∀ w, (zeroValue 0).run P w = .ok (Value.tuple #[]) w
  t3 : P.underlying 3 = some (TypeDesc.int IntKind.i64)
  a3 : ∀ w, (isAgg 3).run P w = .ok false w
  z3 : ∀ w, (Go.sizeOf 3).run P w = .ok 1 w
  v3 : ∀ w, (zeroValue 3).run P w = .ok (Value.int IntKind.i64 0) w
  t4 : P.underlying 4 = some TypeDesc.bool
  a4 : ∀ w, (isAgg 4).run P w = .ok false w
  z4 : ∀ w, (Go.sizeOf 4).run P w = .ok 1 w
  v4 : ∀ w, (zeroValue 4).run P w = .ok (Value.bool false) w
  t34 : P.underlying 34 = some (TypeDesc.slice 42)
  a34 : ∀ w, (isAgg 34).run P w = .ok false w
  z34 : ∀ w, (Go.sizeOf 34).run P w = .ok 1 w
  v34 : ∀ w, (zeroValue 34).run P w = .ok (Value.slice none 0 0) w
  t96 : P.underlying 96 = some (TypeDesc.func #[42, 42] #[3] false)
  a96 : ∀ w, (isAgg 96).run P w = .ok false w
  z96 : ∀ w, (Go.sizeOf 96).run P w = .ok 1 w
  v96 : ∀ w, (zeroValue 96).run P w = .ok Value.nilFunc w
  t104 : P.underlying 104 = some (TypeDesc.int IntKind.u64)
  a104 : ∀ w, (isAgg 104).run P w = .ok false w
  z104 : ∀ w, (Go.sizeOf 104).run P w = .ok 1 w
  v104 : ∀ w, (zeroValue 104).run P w = .ok (Value.int IntKind.u64 0) w
  aE : ∀ w, (isAgg 42).run P w = .ok true w
  zE : ∀ w, (Go.sizeOf 42).run P w = .ok k w

theorem sortP : SortP Tryd.prog 5 where
  mixed := by kernel_rfl
  f_ins := Tryd.func83
  f_sym := Tryd.func84
  f_rot := Tryd.func96
  f_swr := Tryd.func100
  f_stb := Tryd.func64
  f_top := Tryd.func47
  t0 := Tryd.underlying0
  a0 := Tryd.isAgg0
  z0 := Tryd.sizeOf0
  v0 := Tryd.zeroValue0
  t3 := Tryd.underlying3
  a3 := Tryd.isAgg3
  z3 := Tryd.sizeOf3
  v3 := Tryd.zeroValue3
  t4 := Tryd.underlying4
  a4 := Tryd.isAgg4
  z4 := Tryd.sizeOf4
  v4 := Tryd.zeroValue4
  t34 := Tryd.underlying34
  a34 := Tryd.isAgg34
  z34 := Tryd.sizeOf34
  v34 := Tryd.zeroValue34
  t96 := Tryd.underlying96
  a96 := Tryd.isAgg96
  z96 := Tryd.sizeOf96
  v96 := Tryd.zeroValue96
  t104 := Tryd.underlying104
  a104 := Tryd.isAgg104
  z104 := Tryd.sizeOf104
  v104 := Tryd.zeroValue104
  aE := Tryd.isAgg42
  zE := Tryd.sizeOf42

variable {P : Program} {k : Nat} {α : Type} [Inhabited α]

/-- places from a on and from b on change -/
def swapR (a b n i : Nat) (d : Array α) : Array α := if i < n then swapR a b n (i + 1) (swp d (a + i) (b + i)) else d
termination_by n - i

set_option maxHeartbeats 4000000 in
set_option maxRecDepth 1000000 in
theorem swapRange_any (L : SortP P k) (enc : α → List Value) (blk off cap a b n : Nat) (d0 d : Array α) (w0 w : World) (c : Value)
    (R : RowK enc k w0 blk off d0) (hs : d0.size = d.size) (S : SWK enc k w0 blk off d w) (ha : a + n ≤ d.size) (hb : b + n ≤ d.size) (hsz : d.size < 4611686018427387904) :
    Calls P 100 #[.slice (some ⟨blk, off, none⟩) d.size cap, .int .i64 a, .int .i64 b, .int .i64 n, c] w fun e w' =>
      e = .returned (.tuple #[]) ∧ SWK enc k w0 blk off (swapR a b n 0 d) w' := by
  have mixed := L.mixed; have aE := L.aE; have zE := L.zE; have t0 := L.t0; have a0 := L.a0; have z0 := L.z0; have v0 := L.v0; have t3 := L.t3; have a3 := L.a3; have z3 := L.z3; have v3 := L.v3; have t4 := L.t4; have a4 := L.a4; have z4 := L.z4; have v4 := L.v4; have t34 := L.t34; have a34 := L.a34; have z34 := L.z34; have v34 := L.v34; have t96 := L.t96; have a96 := L.a96; have z96 := L.z96; have v96 := L.v96; have t104 := L.t104; have a104 := L.a104; have z104 := L.z104; have v104 := L.v104; have u34 := run_underlying L.t34
  have FG := L.f_swr
  have S0 : Aside (SWK enc k w0 blk off d w) := S
  clear S
  go_enter FG, Tryd.ntmps100
  go_wp2
  go_loopg [10] n (fun kx s10 wr => ∃ (i : Nat) (dk : Array α), s10 = .int .i64 i ∧ i ≤ n ∧ n - i ≤ kx ∧ dk.size = d.size ∧ Aside (SWK enc k w0 blk off dk wr) ∧ Hid (swapR a b n i dk = swapR a b n 0 d))
  case atStart => exact ⟨0, d, rfl, Nat.zero_le _, Nat.le_refl _, rfl, S0, rfl⟩
  case round =>
    clear S0
    obtain ⟨i, dk, rfl, hi, hkx, hds, S1, HE⟩ := hrel
    by_cases hlt : i < n
    · go_wp2_with fail
      have ea44 : ((a : Int) + (i : Int)).toNat = a + i := by omega
      have pa44 : (0 : Int) ≤ (a : Int) + (i : Int) := by omega
      have ba44 : (a : Int) + (i : Int) < (d.size : Int) := by omega
      have ra44 : IntKind.i64.wrap ((a : Int) + (i : Int)) = (a : Int) + (i : Int) := by rw [IntKind.wrap_i64]; omega
      have ec44 : ((b : Int) + (i : Int)).toNat = b + i := by omega
      have pc44 : (0 : Int) ≤ (b : Int) + (i : Int) := by omega
      have bc44 : (b : Int) + (i : Int) < (d.size : Int) := by omega
      have rc44 : IntKind.i64.wrap ((b : Int) + (i : Int)) = (b : Int) + (i : Int) := by rw [IntKind.wrap_i64]; omega
      have S2 : Aside (SWK enc k w0 blk off (swp dk (a + i) (b + i)) ((wr.drew.setCells blk (off + (a + i) * k) (enc dk[b + i]!)).setCells blk (off + (b + i) * k) (enc dk[a + i]!))) := S1.out.swapped R (a + i) (b + i) (by omega) (by omega)
      have l44a := S1.out.ld1 R (by omega) P (a + i) (by omega)
      have l44b := S1.out.ld1 R (by omega) P (b + i) (by omega)
      have s44a := S1.out.st1 R (by omega) P (a + i) (by omega) dk[b + i]!
      have s44b := S1.out.st2 R (by omega) P (a + i) (b + i) (by omega) (by omega) dk[b + i]! dk[a + i]!
      have n44a : (enc dk[a + i]!).length = k := R.hk _
      have n44b : (enc dk[b + i]!).length = k := R.hk _
      generalize enc dk[a + i]! = cI44 at S2 l44a s44b n44a
      generalize enc dk[b + i]! = cJ44 at S2 l44b s44a s44b n44b
      clear S1
      go_wp2_with fail
      go_big_region_o
      clear l44a l44b s44a s44b
      generalize (wr.drew.setCells blk (off + (a + i) * k) cJ44).setCells blk (off + (b + i) * k) cI44 = w2 at S2 ⊢
      go_wp2
      go_roundg (n - (i + 1))
      case measure => omega
      case rel =>
        have hE : swapR a b n i dk = swapR a b n (i + 1) (swp dk (a + i) (b + i)) := by rw [swapR, if_pos hlt]
        exact ⟨i + 1, swp dk (a + i) (b + i), by go_num, by omega, Nat.le_refl _, by rw [size_swp]; exact hds, S2, (show Hid _ from by rw [← HE.out, hE]; exact rfl)⟩
    · go_wp2
      go_end0
      refine ⟨rfl, ?_⟩
      rw [← HE.out, swapR, if_neg hlt]
      exact S1.out

theorem swapR_size (a b n i : Nat) (d : Array α) : (swapR a b n i d).size = d.size := by
  fun_induction swapR a b n i d with
  | case1 i d h ih => rw [ih, size_swp]
  | case2 i d h => rfl

/-- [a, m) and [m, b) change places -/
def rotLoop (m : Nat) : Nat → Nat → Nat → Array α → Array α
  | 0, _, _, d => d
  | f + 1, i, j, d => if i = j then swapR (m - i) m i 0 d else if j < i then rotLoop m f (i - j) j (swapR (m - i) m j 0 d) else rotLoop m f i (j - i) (swapR (m - i) (m + j - i) i 0 d)
def rotR (a m b : Nat) (d : Array α) : Array α := rotLoop m (b - a) (m - a) (b - m) d
theorem rotLoop_size (m : Nat) : ∀ (f i j : Nat) (d : Array α), (rotLoop m f i j d).size = d.size
  | 0, _, _, d => rfl
  | f + 1, i, j, d => by unfold rotLoop; split; · rw [swapR_size]
                         split <;> rw [rotLoop_size, swapR_size]
theorem rotR_size (a m b : Nat) (d : Array α) : (rotR a m b d).size = d.size := rotLoop_size ..

set_option maxHeartbeats 4000000 in
set_option maxRecDepth 1000000 in
theorem rotate_any (L : SortP P k) (enc : α → List Value) (blk off cap a m b : Nat) (d0 d : Array α) (w0 w : World) (c : Value)
    (R : RowK enc k w0 blk off d0) (hs : d0.size = d.size) (S : SWK enc k w0 blk off d w) (ha : a < m) (hm : m < b) (hb : b ≤ d.size) (hsz : d.size < 4611686018427387904) :
    Calls P 96 #[.slice (some ⟨blk, off, none⟩) d.size cap, .int .i64 a, .int .i64 m, .int .i64 b, c] w fun e w' =>
      e = .returned (.tuple #[]) ∧ SWK enc k w0 blk off (rotR a m b d) w' := by
  have mixed := L.mixed; have aE := L.aE; have zE := L.zE; have t0 := L.t0; have a0 := L.a0; have z0 := L.z0; have v0 := L.v0; have t3 := L.t3; have a3 := L.a3; have z3 := L.z3; have v3 := L.v3; have t4 := L.t4; have a4 := L.a4; have z4 := L.z4; have v4 := L.v4; have t34 := L.t34; have a34 := L.a34; have z34 := L.z34; have v34 := L.v34; have t96 := L.t96; have a96 := L.a96; have z96 := L.z96; have v96 := L.v96; have t104 := L.t104; have a104 := L.a104; have z104 := L.z104; have v104 := L.v104; have u34 := run_underlying L.t34
  have FG := L.f_rot
  have e100 : ∀ args w, (callFunc 100 args).run P w = .ok (.enter 100 args) w := enters_of L.f_swr (by kernel_rfl) rfl
  have S0 : Aside (SWK enc k w0 blk off d w) := S
  clear S
  go_enter FG, Tryd.ntmps96
  go_wp2
  go_loopg [10, 11] (b - a) (fun kx s10 s11 wr => ∃ (i j f : Nat) (dk : Array α), s10 = .int .i64 i ∧ s11 = .int .i64 j ∧ 0 < i ∧ 0 < j ∧ i ≤ m ∧ m + j ≤ b ∧ i + j ≤ kx ∧ i + j ≤ f ∧ dk.size = d.size ∧ Aside (SWK enc k w0 blk off dk wr) ∧ Hid (rotLoop m f i j dk = rotR a m b d))
  case atStart => exact ⟨m - a, b - m, b - a, d, by go_num, by go_num, by omega, by omega, by omega, by omega, by omega, by omega, rfl, S0, rfl⟩
  case round =>
    clear S0
    obtain ⟨i, j, f, dk, rfl, rfl, hi, hj, him, hjb, hkx, hf, hds, S1, HE⟩ := hrel
    obtain ⟨f, rfl⟩ : ∃ g, f = g + 1 := ⟨f - 1, by omega⟩
    by_cases hne : i = j
    · have hc := swapRange_any L enc blk off cap (m - i) m i d0 dk w0 wr c R (by omega) S1.out (by omega) (by omega) (by omega)
      have hE : rotLoop m (f + 1) i j dk = swapR (m - i) m i 0 dk := by rw [rotLoop, if_pos hne]
      have HE2 := Lib.hid (hE.symm.trans HE.out)
      have hmi : ((m - i : Nat) : Int) = (m : Int) - (i : Int) := by omega
      rw [hds, hmi] at hc
      have rmi : IntKind.i64.wrap ((m : Int) - (i : Int)) = (m : Int) - (i : Int) := by rw [IntKind.wrap_i64]; omega
      clear hE S1
      subst hne
      go_wp2_with (go_at_fn 100; refine hc.mono ?_; rintro e w2 ⟨rfl, S2⟩; have S3 : Aside (SWK enc k w0 blk off (swapR (m - i) m i 0 dk) w2) := S2; clear S2)
      go_end0
      refine ⟨rfl, ?_⟩
      rw [← HE2.out]
      exact S3.out
    · have hnez : ¬ (i : Int) = (j : Int) := by omega
      by_cases hgt : j < i
      · have hc := swapRange_any L enc blk off cap (m - i) m j d0 dk w0 wr c R (by omega) S1.out (by omega) (by omega) (by omega)
        have hE : rotLoop m (f + 1) i j dk = rotLoop m f (i - j) j (swapR (m - i) m j 0 dk) := by rw [rotLoop, if_neg hne, if_pos hgt]
        have HE2 := Lib.hid (hE.symm.trans HE.out)
        have hmi : ((m - i : Nat) : Int) = (m : Int) - (i : Int) := by omega
        rw [hds, hmi] at hc
        have rmi : IntKind.i64.wrap ((m : Int) - (i : Int)) = (m : Int) - (i : Int) := by rw [IntKind.wrap_i64]; omega
        have HSZ := Lib.hid ((swapR_size (m - i) m j 0 dk).trans hds)
        clear hE S1
        go_wp2_with (go_at_fn 100; refine hc.mono ?_; rintro e w2 ⟨rfl, S2⟩; have S3 : Aside (SWK enc k w0 blk off (swapR (m - i) m j 0 dk) w2) := S2; clear S2)
        go_roundg (i - j + j)
        case measure => omega
        case rel => exact ⟨i - j, j, f, _, by go_num, rfl, by omega, hj, by omega, hjb, by omega, by omega, HSZ.out, S3, HE2⟩
      · have hc := swapRange_any L enc blk off cap (m - i) (m + j - i) i d0 dk w0 wr c R (by omega) S1.out (by omega) (by omega) (by omega)
        have hE : rotLoop m (f + 1) i j dk = rotLoop m f i (j - i) (swapR (m - i) (m + j - i) i 0 dk) := by rw [rotLoop, if_neg hne, if_neg hgt]
        have HE2 := Lib.hid (hE.symm.trans HE.out)
        have hmi : ((m - i : Nat) : Int) = (m : Int) - (i : Int) := by omega
        have hmj : ((m + j - i : Nat) : Int) = (m : Int) + (j : Int) - (i : Int) := by omega
        rw [hds, hmi, hmj] at hc
        have rmi : IntKind.i64.wrap ((m : Int) - (i : Int)) = (m : Int) - (i : Int) := by rw [IntKind.wrap_i64]; omega
        have HSZ := Lib.hid ((swapR_size (m - i) (m + j - i) i 0 dk).trans hds)
        clear hE S1
        go_wp2_with (go_at_fn 100; refine hc.mono ?_; rintro e w2 ⟨rfl, S2⟩; have S3 : Aside (SWK enc k w0 blk off (swapR (m - i) (m + j - i) i 0 dk) w2) := S2; clear S2)
        go_roundg (i + (j - i))
        case measure => omega
        case rel => exact ⟨i, j - i, f, _, rfl, by go_num, hi, by omega, him, by omega, by omega, by omega, HSZ.out, S3, HE2⟩

set_option maxHeartbeats 4000000 in
set_option maxRecDepth 1000000 in
theorem insertion_any (L : SortP P k) (enc : α → List Value) (cf : α → α → Int) (g : Nat) (cb : Array Value) (blk off cap a b : Nat) (d0 d : Array α) (w0 w : World)
    (eg : ∀ args w, (callFunc g args).run P w = .ok (.enter g args) w) (hcmp : CmpLays P g cb enc k cf blk off d0.size w0)
    (R : RowK enc k w0 blk off d0) (hs : d0.size = d.size) (S : SWK enc k w0 blk off d w) (hab : a ≤ b) (hb : b ≤ d.size) (hsz : d.size < 4611686018427387904) :
    Calls P 83 #[.slice (some ⟨blk, off, none⟩) d.size cap, .int .i64 a, .int .i64 b, .func (.func g) #[] cb] w fun e w' =>
      e = .returned (.tuple #[]) ∧ SWK enc k w0 blk off (Sort.insertionSort (ltOf cf) d a b) w' := by
  have mixed := L.mixed; have aE := L.aE; have zE := L.zE; have t0 := L.t0; have a0 := L.a0; have z0 := L.z0; have v0 := L.v0; have t3 := L.t3; have a3 := L.a3; have z3 := L.z3; have v3 := L.v3; have t4 := L.t4; have a4 := L.a4; have z4 := L.z4; have v4 := L.v4; have t34 := L.t34; have a34 := L.a34; have z34 := L.z34; have v34 := L.v34; have t96 := L.t96; have a96 := L.a96; have z96 := L.z96; have v96 := L.v96; have t104 := L.t104; have a104 := L.a104; have z104 := L.z104; have v104 := L.v104; have u34 := run_underlying L.t34
  have FG := L.f_ins
  have HC : Aside _ := hcmp
  have S0 : Aside (SWK enc k w0 blk off d w) := S
  clear S hcmp
  go_enter FG, Tryd.ntmps83
  go_wp2
  go_loopg [8] (b - a) (fun g1 vi wr => ∃ (i : Nat) (dk : Array α), vi = .int .i64 i ∧ a < i ∧ i ≤ b + 1 ∧ b + 1 - i ≤ g1 + 1 ∧ dk.size = d.size ∧ Aside (SWK enc k w0 blk off dk wr) ∧ Hid (insOuter (ltOf cf) a b i dk = insOuter (ltOf cf) a b (a + 1) d))
  case atStart => exact ⟨a + 1, d, by go_num, by omega, by omega, by omega, rfl, S0, rfl⟩
  case round =>
    clear S0
    obtain ⟨i, dk, rfl, hai, hib, hg1, hsk, S1, HO⟩ := hrel
    by_cases hlt : i < b
    · have hltz : (i : Int) < (b : Int) := by omega
      go_wp2
      go_loopg [9] i (fun g2 vj wr2 => ∃ (j : Nat) (dj : Array α), vj = .int .i64 j ∧ a ≤ j ∧ j ≤ i ∧ j ≤ g2 ∧ dj.size = d.size ∧ Aside (SWK enc k w0 blk off dj wr2) ∧ Hid (insInner (ltOf cf) a j dj = insInner (ltOf cf) a i dk))
      case atStart => exact ⟨i, dk, rfl, by omega, Nat.le_refl _, Nat.le_refl _, hsk, S1, rfl⟩
      case round =>
        clear S1
        obtain ⟨j, dj, rfl, haj, hji, hg2, hsj, S2, HI⟩ := hrel
        have out : (j ≤ a ∨ ltOf cf dj[j]! dj[j - 1]! = false) → Hid (insOuter (ltOf cf) a b (i + 1) dj = insOuter (ltOf cf) a b (a + 1) d) := fun hs => by
          show _ = _
          rw [← HO.out, insOuter_go _ _ _ _ _ hlt, ← HI.out, insInner_stop _ _ _ _ hs]
        have OUT : Aside _ := out
        clear out
        by_cases hja : a < j
        · have hjaz : (a : Int) < (j : Int) := by omega
          obtain ⟨jp, rfl⟩ : ∃ jp, j = jp + 1 := ⟨j - 1, by omega⟩
          have hwp : IntKind.i64.wrap (jp : Int) = (jp : Int) := by rw [IntKind.wrap_i64]; omega
          have jz : (jp : Int) + 1 < (d.size : Int) := by omega
          have jz1 : (jp : Int) < (d.size : Int) := by omega
          have hjaz' : (a : Int) < (jp : Int) + 1 := by omega
          have p0 : (0 : Int) ≤ (jp : Int) + 1 := by omega
          have e0 : ((jp : Int) + 1).toNat = jp + 1 := by omega
          obtain ⟨x24, hx24⟩ : ∃ x, x = dj[jp + 1]! := ⟨_, rfl⟩
          obtain ⟨y24, hy24⟩ : ∃ x, x = dj[jp]! := ⟨_, rfl⟩
          have l24a := S2.out.ld R (by omega) P (jp + 1) (by omega)
          have l24b := S2.out.ld R (by omega) P jp (by omega)
          rw [← hx24] at l24a
          rw [← hy24] at l24b
          have hc24 := S2.out.cmp HC.out (by omega) x24 y24
          cases hL : ltOf cf dj[jp + 1]! dj[jp]! with
          | true =>
            have hv24 : cf x24 y24 < 0 := by rw [hx24, hy24]; exact of_decide_eq_true hL
            have hd24 : decide (cf x24 y24 < 0) = true := decide_eq_true hv24
            clear hx24 hy24
            go_wp2_with fail
            go_quiet_grown (first | (go_at_fn g; refine Calls.grown_of (hc24 _ _)))
            have S3 : Aside (SWK enc k w0 blk off dj (grow (wr.drewN nq) osq)) := S2.out.grown nq osq
            clear l24a l24b hc24 S2
            generalize grow (wr.drewN nq) osq = w2 at S3 ⊢
            clear nq osq
            have S4 : Aside (SWK enc k w0 blk off (swp dj (jp + 1) jp) ((w2.drew.setCells blk (off + (jp + 1) * k) (enc dj[jp]!)).setCells blk (off + jp * k) (enc dj[jp + 1]!))) := S3.out.swapped R (jp + 1) jp (by omega) (by omega)
            have l26a := S3.out.ld1 R (by omega) P (jp + 1) (by omega)
            have l26b := S3.out.ld1 R (by omega) P jp (by omega)
            have s26a := S3.out.st1 R (by omega) P (jp + 1) (by omega) dj[jp]!
            have s26b := S3.out.st2 R (by omega) P (jp + 1) jp (by omega) (by omega) dj[jp]! dj[jp + 1]!
            have n26a : (enc dj[jp + 1]!).length = k := R.hk _
            have n26b : (enc dj[jp]!).length = k := R.hk _
            generalize enc dj[jp + 1]! = cI26 at S4 l26a s26b n26a
            generalize enc dj[jp]! = cJ26 at S4 l26b s26a s26b n26b
            clear S3
            have HL := Lib.hid hL
            clear hL
            go_wp2_with fail
            go_big_region_o
            clear l26a l26b s26a s26b
            generalize (w2.drew.setCells blk (off + (jp + 1) * k) cJ26).setCells blk (off + jp * k) cI26 = w4 at S4 ⊢
            go_wp2
            go_roundg jp
            case measure => omega
            case rel =>
              refine ⟨jp, swp dj (jp + 1) jp, by first | rfl | go_num | (congr 1; omega), by omega, by omega, Nat.le_refl _, by rw [size_swp]; exact hsj, S4, (show Hid _ from ?_)⟩
              show _ = _
              have := insInner_go (ltOf cf) a (jp + 1) dj hja (by simp only [Nat.add_sub_cancel]; exact HL.out)
              simp only [Nat.add_sub_cancel] at this
              rw [← HI.out, this]
          | false =>
            have hv24 : ¬ cf x24 y24 < 0 := by rw [hx24, hy24]; exact of_decide_eq_false hL
            have hd24 : decide (cf x24 y24 < 0) = false := decide_eq_false hv24
            have HL := Lib.hid hL
            clear hx24 hy24 hL
            go_wp2_with fail
            go_quiet_grown (first | (go_at_fn g; refine Calls.grown_of (hc24 _ _)))
            have S3 : Aside (SWK enc k w0 blk off dj (grow (wr.drewN nq) osq)) := S2.out.grown nq osq
            clear l24a l24b hc24 S2
            generalize grow (wr.drewN nq) osq = w2 at S3 ⊢
            go_wp2
            go_roundg (b - (i + 1))
            case measure => omega
            case rel => exact ⟨i + 1, dj, by go_num, by omega, by omega, by omega, hsj, S3, OUT.out (Or.inr (by simp only [Nat.add_sub_cancel]; exact HL.out))⟩
        · have hjaz : decide ((j : Int) > (a : Int)) = false := decide_eq_false (by omega)
          have hjaz' : ¬ (a : Int) < (j : Int) := by omega
          have S3 : Aside (SWK enc k w0 blk off dj wr.drew) := S2.out.drew
          go_wp2_with fail
          go_big_region_o
          all_goals go_wp2
          go_roundg (b - (i + 1))
          case measure => omega
          case rel => exact ⟨i + 1, dj, by go_num, by omega, by omega, by omega, hsj, S3, OUT.out (Or.inl (by omega))⟩
    · have hltz : ¬ (i : Int) < (b : Int) := by omega
      go_wp2
      go_end0
      refine ⟨rfl, ?_⟩
      unfold Sort.insertionSort
      rw [← HO.out, insOuter_stop _ _ _ _ _ hlt]
      exact S1.out

end Go.Proofs.YtebkmpgmcldeoaaDoor
