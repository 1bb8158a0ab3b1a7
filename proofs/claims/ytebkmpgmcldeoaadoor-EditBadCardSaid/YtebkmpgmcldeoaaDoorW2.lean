/- slices.SortStableFunc of files. -/
import Derived.Test.YtebkmpgmcldeoaaDoorY
import Derived.Test.YtebkmpgmcldeoaaDoorZ
namespace Go.Proofs.YtebkmpgmcldeoaaDoor
open Go Go.Proofs Go.RowKit Go.Sort
set_option linter.unusedVariables false
variable {P : Program} {k : Nat} {α : Type} [Inhabited α]

theorem symM_any (L : SortP P k) (enc : α → List Value) (cf : α → α → Int) (g : Nat) (cb : Array Value) (blk off cap : Nat) (d0 : Array α) (w0 : World)
    (eg : ∀ args w, (callFunc g args).run P w = .ok (.enter g args) w) (hcmp : CmpLays P g cb enc k cf blk off d0.size w0)
    (R : RowK enc k w0 blk off d0) (hsz : d0.size < 4611686018427387904) :
    ∀ (f a m b : Nat) (d : Array α) (w : World), b - a ≤ f → a < m → m < b → b ≤ d.size → d.size = d0.size → SWK enc k w0 blk off d w →
      Calls P 84 #[.slice (some ⟨blk, off, none⟩) d0.size cap, .int .i64 a, .int .i64 m, .int .i64 b, .func (.func g) #[] cb] w fun e w' =>
        e = .returned (.tuple #[]) ∧ SWK enc k w0 blk off (symM (ltOf cf) f a m b d) w'
  | 0, a, m, b, d, w, hf, h1, h2, _, _, _ => by omega
  | f + 1, a, m, b, d, w, hf, h1, h2, h3, hs, S => by
    by_cases hA : m = a + 1
    · subst hA
      have h := sym1_any L enc cf g cb blk off cap a b d0 d w0 w eg hcmp R hs.symm S h2 h3 (by omega)
      rw [hs] at h
      rw [symM, if_pos rfl]
      exact h
    · by_cases hB : b = m + 1
      · subst hB
        have h := sym2_any L enc cf g cb blk off cap a m d0 d w0 w eg hcmp R hs.symm S (by omega) h3 (by omega)
        rw [hs] at h
        rw [symM, if_neg hA, if_pos rfl]
        exact h
      · exact sym3_any L enc cf g cb blk off cap d0 w0 eg hcmp R hsz f (fun a m b d w => symM_any L enc cf g cb blk off cap d0 w0 eg hcmp R hsz f a m b d w) a m b d w hf (by omega) (by omega) h3 hs S

set_option maxRecDepth 1000000 in
theorem sortStable_any (L : SortP P k) (enc : α → List Value) (cf : α → α → Int) (g : Nat) (cb : Array Value) (blk off cap : Nat) (d : Array α) (w : World)
    (eg : ∀ args w, (callFunc g args).run P w = .ok (.enter g args) w) (hcmp : CmpLays P g cb enc k cf blk off d.size w)
    (R : RowK enc k w blk off d) (hsz : d.size < 1152921504606846976) :
    Calls P 47 #[.slice (some ⟨blk, off, none⟩) d.size cap, .func (.func g) #[] cb] w fun e w' =>
      e = .returned (.tuple #[]) ∧ SWK enc k w blk off (stableR (ltOf cf) d) w' := by
  have mixed := L.mixed; have aE := L.aE; have zE := L.zE; have t0 := L.t0; have a0 := L.a0; have z0 := L.z0; have v0 := L.v0; have t3 := L.t3; have a3 := L.a3; have z3 := L.z3; have v3 := L.v3; have t4 := L.t4; have a4 := L.a4; have z4 := L.z4; have v4 := L.v4; have t34 := L.t34; have a34 := L.a34; have z34 := L.z34; have v34 := L.v34; have t96 := L.t96; have a96 := L.a96; have z96 := L.z96; have v96 := L.v96; have t104 := L.t104; have a104 := L.a104; have z104 := L.z104; have v104 := L.v104; have u34 := run_underlying L.t34
  have FG := L.f_top
  have e64 : ∀ args w, (callFunc 64 args).run P w = .ok (.enter 64 args) w := enters_of L.f_stb (by kernel_rfl) rfl
  have hcon := stable_any L enc cf g cb blk off cap d d w w eg hcmp (symM_any L enc cf g cb blk off cap d w eg hcmp R (by omega)) R rfl (SWK.start R.hH) hsz
  clear hcmp
  go_enter FG, Tryd.ntmps47
  go_wp2_with (go_at_fn 64; refine hcon.mono ?_; rintro e w2 ⟨rfl, S2⟩; have S3 : Aside _ := S2; clear S2)
  go_end0
  exact ⟨rfl, S3.out⟩

set_option maxRecDepth 1000000 in
/-- no file at all -/
theorem sortStable_none (L : SortP P k) (A : Option Addr) (cap : Nat) (c : Value) (w : World) :
    Calls P 47 #[.slice A 0 cap, c] w fun e w' => e = .returned (.tuple #[]) ∧ w = w' := by
  have mixed := L.mixed; have aE := L.aE; have zE := L.zE; have t0 := L.t0; have a0 := L.a0; have z0 := L.z0; have v0 := L.v0; have t3 := L.t3; have a3 := L.a3; have z3 := L.z3; have v3 := L.v3; have t4 := L.t4; have a4 := L.a4; have z4 := L.z4; have v4 := L.v4; have t34 := L.t34; have a34 := L.a34; have z34 := L.z34; have v34 := L.v34; have t96 := L.t96; have a96 := L.a96; have z96 := L.z96; have v96 := L.v96; have t104 := L.t104; have a104 := L.a104; have z104 := L.z104; have v104 := L.v104; have u34 := run_underlying L.t34
  have FG := L.f_top
  have e64 : ∀ args w, (callFunc 64 args).run P w = .ok (.enter 64 args) w := enters_of L.f_stb (by kernel_rfl) rfl
  have e83 : ∀ args w, (callFunc 83 args).run P w = .ok (.enter 83 args) w := enters_of L.f_ins (by kernel_rfl) rfl
  have hins : Calls P 83 #[.slice A 0 cap, .int .i64 0, .int .i64 0, c] w fun e w' => e = .returned (.tuple #[]) ∧ w = w' := by
    go_enter L.f_ins, Tryd.ntmps83
    go_wp2
    refine wp_loop_rounds 1 ?_
    rw [rounds_succ]
    go_wp2
    go_end0
    exact ⟨rfl, rfl⟩
  have hstb : Calls P 64 #[.slice A 0 cap, .int .i64 0, c] w fun e w' => e = .returned (.tuple #[]) ∧ w = w' := by
    go_enter L.f_stb, Tryd.ntmps64
    go_wp2
    refine wp_loop_rounds 1 ?_
    rw [rounds_succ]
    go_wp2_with (go_at_fn 83; refine hins.mono ?_; rintro e w2 ⟨rfl, rfl⟩)
    refine wp_loop_rounds 1 ?_
    rw [rounds_succ]
    go_wp2
    go_end0
    exact ⟨rfl, rfl⟩
  clear hins
  go_enter FG, Tryd.ntmps47
  go_wp2_with (go_at_fn 64; refine hstb.mono ?_; rintro e w2 ⟨rfl, rfl⟩)
  go_end0
  exact ⟨rfl, rfl⟩

end Go.Proofs.YtebkmpgmcldeoaaDoor
