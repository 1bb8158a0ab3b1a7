/- slices.SortStableFunc of files, over any program that bears it. -/
import Derived.Test.YtebkmpgmcldeoaaDoorP
namespace Go.Proofs.YtebkmpgmcldeoaaDoor
open Go Go.Proofs Go.RowKit Go.Sort
set_option linter.unusedVariables false
variable {P : Program} {k : Nat} {α : Type} [Inhabited α]

theorem blocksR_size (lt : α → α → Bool) (n : Nat) : ∀ (f a : Nat) (d : Array α), (blocksR lt n f a d).size = d.size
  | 0, _, _ => rfl
  | f + 1, a, d => by
    unfold blocksR
    split
    · rw [blocksR_size, insertionSort_size]
    · rw [insertionSort_size]

set_option maxHeartbeats 8000000 in
set_option maxRecDepth 1000000 in
theorem stable_any (L : SortP P k) (enc : α → List Value) (cf : α → α → Int) (g : Nat) (cb : Array Value) (blk off cap : Nat) (d0 d : Array α) (w0 w : World)
    (eg : ∀ args w, (callFunc g args).run P w = .ok (.enter g args) w) (hcmp : CmpLays P g cb enc k cf blk off d0.size w0)
    (hsym : ∀ (f a m b : Nat) (d : Array α) (w : World), b - a ≤ f → a < m → m < b → b ≤ d.size → d.size = d0.size → SWK enc k w0 blk off d w →
      Calls P 84 #[.slice (some ⟨blk, off, none⟩) d0.size cap, .int .i64 a, .int .i64 m, .int .i64 b, .func (.func g) #[] cb] w fun e w' =>
        e = .returned (.tuple #[]) ∧ SWK enc k w0 blk off (symM (ltOf cf) f a m b d) w')
    (R : RowK enc k w0 blk off d0) (hs : d.size = d0.size) (S : SWK enc k w0 blk off d w) (hsz : d0.size < 1152921504606846976) :
    Calls P 64 #[.slice (some ⟨blk, off, none⟩) d0.size cap, .int .i64 d0.size, .func (.func g) #[] cb] w fun e w' =>
      e = .returned (.tuple #[]) ∧ SWK enc k w0 blk off (stableR (ltOf cf) d) w' := by
  have mixed := L.mixed; have aE := L.aE; have zE := L.zE; have t0 := L.t0; have a0 := L.a0; have z0 := L.z0; have v0 := L.v0; have t3 := L.t3; have a3 := L.a3; have z3 := L.z3; have v3 := L.v3; have t4 := L.t4; have a4 := L.a4; have z4 := L.z4; have v4 := L.v4; have t34 := L.t34; have a34 := L.a34; have z34 := L.z34; have v34 := L.v34; have t96 := L.t96; have a96 := L.a96; have z96 := L.z96; have v96 := L.v96; have t104 := L.t104; have a104 := L.a104; have z104 := L.z104; have v104 := L.v104; have u34 := run_underlying L.t34
  have FG := L.f_stb
  have e83 : ∀ args w, (callFunc 83 args).run P w = .ok (.enter 83 args) w := enters_of L.f_ins (by kernel_rfl) rfl
  have e84 : ∀ args w, (callFunc 84 args).run P w = .ok (.enter 84 args) w := enters_of L.f_sym (by kernel_rfl) rfl
  have HC : Aside _ := hcmp
  have HS : Aside _ := hsym
  have S0 : Aside (SWK enc k w0 blk off d w) := S
  have HSZ := Lib.hid hs
  clear S hcmp hsym hs
  have hins : ∀ (a b : Nat) (dk : Array α) (W : World), a ≤ b → b ≤ d0.size → dk.size = d0.size → SWK enc k w0 blk off dk W →
      Calls P 83 #[.slice (some ⟨blk, off, none⟩) d0.size cap, .int .i64 a, .int .i64 b, .func (.func g) #[] cb] W fun e w' =>
        e = .returned (.tuple #[]) ∧ SWK enc k w0 blk off (insertionSort (ltOf cf) dk a b) w' := fun a b dk W h1 h2 h3 h4 => by
    have := insertion_any L enc cf g cb blk off cap a b d0 dk w0 W eg HC.out R h3.symm h4 h1 (by omega) (by omega)
    rwa [h3] at this
  have HI : Aside _ := hins
  clear hins
  obtain ⟨N, hN⟩ : ∃ N, N = d0.size := ⟨_, rfl⟩
  rw [← hN]
  have hN1 : N ≤ d0.size := by omega
  have hN2 : d0.size ≤ N := by omega
  have HN := Lib.hid hN
  have hsz' : N < 1152921504606846976 := by omega
  clear hN
  go_enter FG, Tryd.ntmps64
  go_wp2
  go_loopg [7, 8] N (fun kx s7 s8 wr => ∃ (a f : Nat) (dk : Array α), s7 = .int .i64 a ∧ s8 = .int .i64 ((a + 20 : Nat) : Int) ∧ a ≤ N ∧ N - a ≤ kx ∧ N - a < f ∧ Hid (dk.size = d0.size) ∧ Aside (SWK enc k w0 blk off dk wr) ∧ Hid (blocksR (ltOf cf) N f a dk = blocksR (ltOf cf) N (N + 1) 0 d))
  case atStart => exact ⟨0, N + 1, d, rfl, rfl, by omega, by omega, by omega, HSZ, S0, rfl⟩
  case round =>
    clear S0
    obtain ⟨a, f, dk, rfl, rfl, haN, hkx, hf, HK, S1, HE⟩ := hrel
    obtain ⟨f, rfl⟩ : ∃ g, f = g + 1 := ⟨f - 1, by omega⟩
    by_cases h20 : a + 20 ≤ N
    · have hcon := HI.out a (a + 20) dk wr (by omega) (by omega) HK.out S1.out
      have HE2 := Lib.hid (show blocksR (ltOf cf) N f (a + 20) (insertionSort (ltOf cf) dk a (a + 20)) = blocksR (ltOf cf) N (N + 1) 0 d by rw [← HE.out, blocksR, if_pos h20])
      have HK2 := Lib.hid ((insertionSort_size (ltOf cf) dk a (a + 20)).trans HK.out)
      have hw : IntKind.i64.wrap ((a : Int) + 20 + 20) = (a : Int) + 20 + 20 := by rw [IntKind.wrap_i64]; omega
      have hz : (a : Int) + 20 ≤ (N : Int) := by omega
      rw [← HN.out] at hcon
      clear HE HK S1
      go_wp2_with (go_at_fn 83; refine hcon.mono ?_; rintro e w2 ⟨rfl, S2⟩; have S3 : Aside _ := S2; clear S2)
      go_roundg (N - (a + 20))
      case measure => omega
      case rel => exact ⟨a + 20, f, _, rfl, by go_num, by omega, by omega, by omega, HK2, S3, HE2⟩
    · have hcon := HI.out a N dk wr haN (by omega) HK.out S1.out
      have HE2 := Lib.hid (show insertionSort (ltOf cf) dk a N = blocksR (ltOf cf) N (N + 1) 0 d by rw [← HE.out, blocksR, if_neg h20])
      have HK2 := Lib.hid ((insertionSort_size (ltOf cf) dk a N).trans HK.out)
      have hz : ¬ (a : Int) + 20 ≤ (N : Int) := by omega
      rw [← HN.out] at hcon
      rw [HE2.out] at HK2 hcon
      clear HE HK S1 HE2
      obtain ⟨d1, hd1⟩ : ∃ x, x = blocksR (ltOf cf) N (N + 1) 0 d := ⟨_, rfl⟩
      rw [← hd1] at HK2 hcon
      have HD1 := Lib.hid hd1
      clear hd1
      go_wp2_with (go_at_fn 83; refine hcon.mono ?_; rintro e w2 ⟨rfl, S2⟩; have S3 : Aside _ := S2; clear S2)
      have hR : stableR (ltOf cf) d = mergeR (ltOf cf) N (N + 1) 20 d1 := by unfold stableR; rw [HSZ.out, ← HN.out, ← HD1.out]
      have HR := Lib.hid hR
      clear hR
      go_loopg [6] N (fun kx s6 wr => ∃ (bs f : Nat) (dk : Array α), s6 = .int .i64 bs ∧ 0 < bs ∧ bs < 2 * N + 21 ∧ N - bs ≤ kx ∧ N < f + bs ∧ Hid (dk.size = d0.size) ∧ Aside (SWK enc k w0 blk off dk wr) ∧ Hid (mergeR (ltOf cf) N f bs dk = mergeR (ltOf cf) N (N + 1) 20 d1))
      case atStart => exact ⟨20, N + 1, d1, rfl, by omega, by omega, by omega, by omega, HK2, S3, rfl⟩
      case round =>
        clear S3
        obtain ⟨bs, f, dk, rfl, hb0, hbN, hkx, hf, HK, S1, HE⟩ := hrel
        by_cases hlt : bs < N
        · obtain ⟨f, rfl⟩ : ∃ g, f = g + 1 := ⟨f - 1, by omega⟩
          have HE2 := Lib.hid (show mergeR (ltOf cf) N f (bs * 2) (passR (ltOf cf) N bs (N + 1) 0 dk) = mergeR (ltOf cf) N (N + 1) 20 d1 by rw [← HE.out, mergeR, if_pos hlt])
          have HP2 := Lib.hid ((passR_size (ltOf cf) N bs hb0 (N + 1) 0 dk (by rw [HK.out]; exact hN1)).trans HK.out)
          have hw2 : IntKind.i64.wrap (2 * (bs : Int)) = 2 * (bs : Int) := by rw [IntKind.wrap_i64]; omega
          clear HE
          go_wp2_with fail
          go_loopg [7, 8] N (fun kx s7 s8 wr => ∃ (a f : Nat) (dj : Array α), s7 = .int .i64 a ∧ s8 = .int .i64 ((a + 2 * bs : Nat) : Int) ∧ a ≤ N ∧ N - a ≤ kx ∧ N - a < f ∧ Hid (dj.size = d0.size) ∧ Aside (SWK enc k w0 blk off dj wr) ∧ Hid (passR (ltOf cf) N bs f a dj = passR (ltOf cf) N bs (N + 1) 0 dk))
          case atStart => exact ⟨0, N + 1, dk, rfl, by go_num, by omega, by omega, by omega, HK, S1, rfl⟩
          case round =>
            clear S1 HK
            obtain ⟨a, f2, dj, rfl, rfl, haN, hkx2, hf2, HK, S1, HE⟩ := hrel
            obtain ⟨f2, rfl⟩ : ∃ g, f2 = g + 1 := ⟨f2 - 1, by omega⟩
            by_cases h2 : a + 2 * bs ≤ N
            · have hcon := HS.out N a (a + bs) (a + 2 * bs) dj wr (by omega) (by omega) (by omega) (by rw [HK.out]; omega) HK.out S1.out
              have HE3 := Lib.hid (show passR (ltOf cf) N bs f2 (a + 2 * bs) (symM (ltOf cf) N a (a + bs) (a + 2 * bs) dj) = passR (ltOf cf) N bs (N + 1) 0 dk by rw [← HE.out, passR, if_pos h2])
              have HK3 := Lib.hid ((symM_size (ltOf cf) N a (a + bs) (a + 2 * bs) dj).trans HK.out)
              have hz : (a : Int) + 2 * (bs : Int) ≤ (N : Int) := by omega
              have hw3 : IntKind.i64.wrap ((a : Int) + (bs : Int)) = (a : Int) + (bs : Int) := by rw [IntKind.wrap_i64]; omega
              have hw4 : IntKind.i64.wrap ((a : Int) + 2 * (bs : Int) + 2 * (bs : Int)) = (a : Int) + 2 * (bs : Int) + 2 * (bs : Int) := by rw [IntKind.wrap_i64]; omega
              rw [← HN.out] at hcon
              simp only [Int.natCast_add, Int.natCast_mul] at hcon
              clear HE HK S1
              go_wp2_with (go_at_fn 84; refine hcon.mono ?_; rintro e w2 ⟨rfl, S2⟩; have S3 : Aside _ := S2; clear S2)
              go_roundg (N - (a + 2 * bs))
              case measure => omega
              case rel => exact ⟨a + 2 * bs, f2, _, by go_num, by go_num, by omega, by omega, by omega, HK3, S3, HE3⟩
            · have hz : ¬ (a : Int) + 2 * (bs : Int) ≤ (N : Int) := by omega
              have hw3 : IntKind.i64.wrap ((a : Int) + (bs : Int)) = (a : Int) + (bs : Int) := by rw [IntKind.wrap_i64]; omega
              have hw5 : IntKind.i64.wrap ((bs : Int) * 2) = (bs : Int) * 2 := by rw [IntKind.wrap_i64]; omega
              by_cases h3 : a + bs < N
              · have hcon := HS.out N a (a + bs) N dj wr (by omega) (by omega) (by omega) (by rw [HK.out]; omega) HK.out S1.out
                have hE3 : symM (ltOf cf) N a (a + bs) N dj = passR (ltOf cf) N bs (N + 1) 0 dk := by rw [← HE.out, passR, if_neg h2, if_pos h3]
                have hz3 : (a : Int) + (bs : Int) < (N : Int) := by omega
                rw [← HN.out, hE3] at hcon
                simp only [Int.natCast_add, Int.natCast_mul] at hcon
                clear HE HK S1 hE3
                go_wp2_with (go_at_fn 84; refine hcon.mono ?_; rintro e w2 ⟨rfl, S2⟩; have S3 : Aside _ := S2; clear S2)
                go_roundg (N - bs * 2)
                case measure => omega
                case rel => exact ⟨bs * 2, f, _, by go_num, by omega, by omega, by omega, by omega, HP2, S3, HE2⟩
              · have hz3 : ¬ (a : Int) + (bs : Int) < (N : Int) := by omega
                have hE3 : dj = passR (ltOf cf) N bs (N + 1) 0 dk := by rw [← HE.out, passR, if_neg h2, if_neg h3]
                have S3 : Aside (SWK enc k w0 blk off (passR (ltOf cf) N bs (N + 1) 0 dk) wr) := by rw [← hE3]; exact S1
                clear HE HK S1 hE3
                go_wp2_with fail
                go_roundg (N - bs * 2)
                case measure => omega
                case rel => exact ⟨bs * 2, f, _, by go_num, by omega, by omega, by omega, by omega, HP2, S3, HE2⟩
        · have hE3 : dk = mergeR (ltOf cf) N (N + 1) 20 d1 := by
            rw [← HE.out]; cases f with
            | zero => rfl
            | succ f => rw [mergeR, if_neg hlt]
          have S3 : Aside (SWK enc k w0 blk off (mergeR (ltOf cf) N (N + 1) 20 d1) wr) := by rw [← hE3]; exact S1
          clear HE HK S1 hE3
          go_wp2
          go_end0
          refine ⟨rfl, ?_⟩
          rw [HR.out]
          exact S3.out

end Go.Proofs.YtebkmpgmcldeoaaDoor
