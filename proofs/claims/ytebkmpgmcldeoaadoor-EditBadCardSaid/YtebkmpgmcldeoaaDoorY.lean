/- slices.symMergeCmpFunc of files, whole. -/
import Derived.Test.YtebkmpgmcldeoaaDoorP
import Derived.Deep.DeepCutAuto
import Derived.Deep.CutRange
namespace Go.Proofs.YtebkmpgmcldeoaaDoor
open Go Go.Proofs Go.RowKit Go.Sort
set_option linter.unusedVariables false
variable {P : Program} {k : Nat} {α : Type} [Inhabited α]

set_option maxHeartbeats 8000000 in
set_option maxRecDepth 1000000 in
theorem sym3_any (L : SortP P k) (enc : α → List Value) (cf : α → α → Int) (g : Nat) (cb : Array Value) (blk off cap : Nat) (d0 : Array α) (w0 : World)
    (eg : ∀ args w, (callFunc g args).run P w = .ok (.enter g args) w) (hcmp : CmpLays P g cb enc k cf blk off d0.size w0)
    (R : RowK enc k w0 blk off d0) (hsz : d0.size < 4611686018427387904) (f : Nat)
    (ih : ∀ (a m b : Nat) (d : Array α) (w : World), b - a ≤ f → a < m → m < b → b ≤ d.size → d.size = d0.size → SWK enc k w0 blk off d w →
      Calls P 84 #[.slice (some ⟨blk, off, none⟩) d0.size cap, .int .i64 a, .int .i64 m, .int .i64 b, .func (.func g) #[] cb] w fun e w' =>
        e = .returned (.tuple #[]) ∧ SWK enc k w0 blk off (symM (ltOf cf) f a m b d) w')
    (a m b : Nat) (d : Array α) (w : World) (hf : b - a ≤ f + 1) (ham : a + 1 < m) (hmb : m + 1 < b) (hb : b ≤ d.size) (hs : d.size = d0.size) (S : SWK enc k w0 blk off d w) :
    Calls P 84 #[.slice (some ⟨blk, off, none⟩) d0.size cap, .int .i64 a, .int .i64 m, .int .i64 b, .func (.func g) #[] cb] w fun e w' =>
      e = .returned (.tuple #[]) ∧ SWK enc k w0 blk off (symM (ltOf cf) (f + 1) a m b d) w' := by
  have mixed := L.mixed; have aE := L.aE; have zE := L.zE; have t0 := L.t0; have a0 := L.a0; have z0 := L.z0; have v0 := L.v0; have t3 := L.t3; have a3 := L.a3; have z3 := L.z3; have v3 := L.v3; have t4 := L.t4; have a4 := L.a4; have z4 := L.z4; have v4 := L.v4; have t34 := L.t34; have a34 := L.a34; have z34 := L.z34; have v34 := L.v34; have t96 := L.t96; have a96 := L.a96; have z96 := L.z96; have v96 := L.v96; have t104 := L.t104; have a104 := L.a104; have z104 := L.z104; have v104 := L.v104; have u34 := run_underlying L.t34
  have FG := L.f_sym
  have e84 : ∀ args w, (callFunc 84 args).run P w = .ok (.enter 84 args) w := enters_of L.f_sym (by kernel_rfl) rfl
  have e96 : ∀ args w, (callFunc 96 args).run P w = .ok (.enter 96 args) w := enters_of L.f_rot (by kernel_rfl) rfl
  have IH : Aside _ := ih
  have HC : Aside _ := hcmp
  have S0 : Aside (SWK enc k w0 blk off d w) := S
  clear S hcmp ih
  obtain ⟨mid, hmid⟩ : ∃ x, x = (a + b) / 2 := ⟨_, rfl⟩
  have hm1 : a < mid := by omega
  have hm2 : mid < b := by omega
  obtain ⟨l0, hl0⟩ : ∃ x, x = if mid < m then mid + m - b else a := ⟨_, rfl⟩
  obtain ⟨r0, hr0⟩ : ∃ x, x = if mid < m then mid else m := ⟨_, rfl⟩
  obtain ⟨st, hst⟩ : ∃ x, x = symS (ltOf cf) a m b d := ⟨_, rfl⟩
  have hst2 := hst
  unfold symS at hst2
  rw [← hmid, ← hl0, ← hr0] at hst2
  have hlr : l0 ≤ r0 ∧ a ≤ l0 ∧ r0 ≤ m ∧ r0 ≤ mid ∧ mid + m - b ≤ l0 := by rw [hl0, hr0]; split <;> omega
  have hsi := bsearch_in (fun c => !ltOf cf d[mid + m - 1 - c]! d[c]!) (b - a) l0 r0 hlr.1
  rw [← hst2] at hsi
  have HST := Lib.hid hst2
  have HSS := Lib.hid hst
  clear hst hst2
  go_enter FG, Tryd.ntmps84
  have h1 : ((m : Int) - (a : Int) == 1) = false := by rw [beq_eq_false_iff_ne]; omega
  have h2 : ((b : Int) - (m : Int) == 1) = false := by rw [beq_eq_false_iff_ne]; omega
  have h3 : IntKind.i64.wrap ((m : Int) - (a : Int)) = (m : Int) - (a : Int) := by rw [IntKind.wrap_i64]; omega
  have h4 : IntKind.i64.wrap ((b : Int) - (m : Int)) = (b : Int) - (m : Int) := by rw [IntKind.wrap_i64]; omega
  go_upto_if 140 with fail
  go_cut [20, 21] (fun s20 s21 wx => s20 = .int .i64 l0 ∧ s21 = .int .i64 r0 ∧ wx = w)
  case first => as_aux_lemma =>
    by_cases hmm : mid < m
    · have hz : ((a : Int) + (b : Int)) / 2 < (m : Int) := by omega
      rw [if_pos hmm] at hl0 hr0
      have rw1 : IntKind.i64.wrap (((a : Int) + (b : Int)) / 2 + (m : Int) - (b : Int)) = ((a : Int) + (b : Int)) / 2 + (m : Int) - (b : Int) := by rw [IntKind.wrap_i64]; omega
      go_wp2_with fail
      go_meet
      case rel => exact ⟨by congr 1; omega, by congr 1; omega, rfl⟩
    · have hz : ¬ ((a : Int) + (b : Int)) / 2 < (m : Int) := by omega
      rw [if_neg hmm] at hl0 hr0
      go_wp2_with fail
      go_meet
      case rel => exact ⟨by congr 1; omega, by congr 1; omega, rfl⟩
  case rest =>
    obtain ⟨rfl, rfl, rfl⟩ := hcut
    have HM := Lib.hid hmid
    have hmd1 : mid ≤ (a + b) / 2 := by omega
    have hmd2 : (a + b) / 2 ≤ mid := by omega
    have hmdz : ((a : Int) + (b : Int)) / 2 = (mid : Int) := by omega
    clear hl0 hr0 hmid
    go_wp2_with fail
    obtain ⟨pp, hpp⟩ : ∃ p, p = mid + m - 1 := ⟨_, rfl⟩
    have hpz : ((a : Int) + (b : Int)) / 2 + (m : Int) - 1 = (pp : Int) := by omega
    rw [hmdz] at hpz
    rw [hmdz, hpz]
    rw [← hpp] at HST
    have hpp1 : pp ≤ mid + m - 1 := by omega
    have hpp2 : mid + m - 1 ≤ pp := by omega
    clear hpz hpp hmdz
    go_loopg [20, 21] b (fun kx s10 s11 wr => ∃ (i j f : Nat), s10 = .int .i64 i ∧ s11 = .int .i64 j ∧ l0 ≤ i ∧ i ≤ j ∧ j ≤ r0 ∧ j - i ≤ kx ∧ j - i ≤ f ∧ Aside (SWK enc k w0 blk off d wr) ∧ Hid (bsearch (fun c => !ltOf cf d[pp - c]! d[c]!) f i j = st))
    case atStart => exact ⟨l0, r0, b - a, rfl, rfl, by omega, by omega, by omega, by omega, by omega, S0, HST.out.symm⟩
    case round =>
      clear S0
      obtain ⟨i, j, f', rfl, rfl, hai, hij, hjb, hkx, hf', S1, HE⟩ := hrel
      by_cases hlt : i < j
      · obtain ⟨f', rfl⟩ : ∃ g, f' = g + 1 := ⟨f' - 1, by omega⟩
        obtain ⟨h, hh⟩ : ∃ h, h = (i + j) / 2 := ⟨_, rfl⟩
        have hx1 : h < d0.size := by omega
        have hx2 : h < j := by omega
        have hx3 : i ≤ h := by omega
        have hx4 : ((i : Int) + (j : Int)) / 2 = (h : Int) := by omega
        obtain ⟨q, hq⟩ : ∃ q, q = pp - h := ⟨_, rfl⟩
        have hqz : (pp : Int) - (h : Int) = (q : Int) := by omega
        have hqw : IntKind.i64.wrap (q : Int) = (q : Int) := by rw [IntKind.wrap_i64]; omega
        have hql : q < d0.size := by omega
        have hq1 : q ≤ pp - h := by omega
        have hh1 : h ≤ (i + j) / 2 := by omega
        have hh2 : (i + j) / 2 ≤ h := by omega
        have HQ := Lib.hid hq
        have HHH := Lib.hid hh
        clear hq hh
        go_upto_region 35 with fail
        obtain ⟨x24, hx24⟩ : ∃ x, x = d[q]! := ⟨_, rfl⟩
        obtain ⟨y24, hy24⟩ : ∃ x, x = d[h]! := ⟨_, rfl⟩
        have l24a := S1.out.ld R (by omega) P q (by omega)
        have l24b := S1.out.ld R (by omega) P h (by omega)
        rw [← hx24] at l24a
        rw [← hy24] at l24b
        have hc24 := S1.out.cmp HC.out (by omega) x24 y24
        have HB := Lib.hid (show bsearch (fun c => !ltOf cf d[pp - c]! d[c]!) (f' + 1) i j = if (!decide (cf x24 y24 < 0)) = true then bsearch (fun c => !ltOf cf d[pp - c]! d[c]!) f' (h + 1) j else bsearch (fun c => !ltOf cf d[pp - c]! d[c]!) f' i h by
          rw [bsearch, if_pos hlt, hx24, hy24, HQ.out, HHH.out]; rfl)
        clear hx24 hy24
        by_cases hv24 : cf x24 y24 < 0
        · as_aux_lemma =>
          have hd24 : decide (cf x24 y24 < 0) = true := decide_eq_true hv24
          have HE2 := Lib.hid (HB.out.symm.trans HE.out)
          rw [hd24, if_neg (by simp)] at HE2
          go_wp2_with fail
          go_quiet_grown (first | (go_at_fn g; refine Calls.grown_of (hc24 _ _)))
          have S3 : Aside (SWK enc k w0 blk off d (grow (wr.drewN nq) osq)) := S1.out.grown nq osq
          clear l24a l24b hc24 S1
          generalize grow (wr.drewN nq) osq = w2 at S3 ⊢
          clear nq osq
          go_wp2
          go_roundg (h - i)
          case measure => omega
          case rel => exact ⟨i, h, f', rfl, rfl, by omega, by omega, by omega, by omega, by omega, S3, HE2⟩
        · as_aux_lemma =>
          have hd24 : decide (cf x24 y24 < 0) = false := decide_eq_false hv24
          have HE2 := Lib.hid (HB.out.symm.trans HE.out)
          rw [hd24, if_pos (show (!false) = true from rfl)] at HE2
          go_wp2_with fail
          go_quiet_grown (first | (go_at_fn g; refine Calls.grown_of (hc24 _ _)))
          have S3 : Aside (SWK enc k w0 blk off d (grow (wr.drewN nq) osq)) := S1.out.grown nq osq
          clear l24a l24b hc24 S1
          generalize grow (wr.drewN nq) osq = w2 at S3 ⊢
          clear nq osq
          go_wp2
          go_roundg (j - (h + 1))
          case measure => omega
          case rel => exact ⟨h + 1, j, f', by go_num, rfl, by omega, by omega, by omega, by omega, by omega, S3, HE2⟩
      · have hE : i = st := by
          rw [← HE.out]; cases f' with
          | zero => rfl
          | succ f' => rw [bsearch, if_neg hlt]
        subst hE
        obtain ⟨e, he⟩ : ∃ e, e = mid + m - i := ⟨_, rfl⟩
        have heb : e ≤ b ∧ m ≤ e + 0 ∧ mid ≤ e := by omega
        have hez : (mid : Int) + (m : Int) - (i : Int) = (e : Int) := by omega
        have hie : a ≤ i ∧ i ≤ m ∧ i ≤ mid := by omega
        have hmq : mid < m ∨ m ≤ mid := by omega
        obtain ⟨d1, hd1⟩ : ∃ x, x = if i < m ∧ m < e then rotR i m e d else d := ⟨_, rfl⟩
        obtain ⟨d2, hd2⟩ : ∃ x, x = if a < i ∧ i < mid then symM (ltOf cf) f a i mid d1 else d1 := ⟨_, rfl⟩
        have HF := Lib.hid (show symM (ltOf cf) (f + 1) a m b d = if mid < e ∧ e < b then symM (ltOf cf) f mid e b d2 else d2 by
          rw [symM, if_neg (by omega), if_neg (by omega)]; simp only [← HM.out, ← HSS.out, ← he, ← hd1, ← hd2])
        have hs1 : d1.size = d0.size := by rw [hd1]; split; · rw [rotR_size, hs]
                                           exact hs
        have hs2 : d2.size = d0.size := by rw [hd2]; split; · rw [symM_size, hs1]
                                           exact hs1
        have hif : a ≤ i := by omega
        have hem : m ≤ e := by omega
        have hme : mid ≤ e := by omega
        have heb' : e ≤ b := by omega
        have HE := Lib.hid he
        have HD1 := Lib.hid hd1
        have HD2 := Lib.hid hd2
        clear HC HST HSS he hd1 hd2
        go_upto_region 39 with fail
        go_cut [185] (fun s wx => s = .bool (decide (i < m ∧ m < e)) ∧ Aside (SWK enc k w0 blk off d wx))
        case first => as_aux_lemma =>
          by_cases h1 : i < m
          · by_cases h2 : m < e
            · go_wp2_with fail
              go_meet
              case rel => exact ⟨by rw [decide_eq_true (And.intro h1 h2)], S1⟩
            · go_wp2_with fail
              go_meet
              case rel => exact ⟨by rw [decide_eq_false (fun h => h2 h.2)], S1⟩
          · go_wp2_with fail
            go_meet
            case rel => exact ⟨by rw [decide_eq_false (fun h => h1 h.1)], S1⟩
        case rest =>
          clear S1
          obtain ⟨rfl, S1⟩ := hcut
          go_upto_if 185 with fail
          go_cut [] (fun wx => Aside (SWK enc k w0 blk off d1 wx))
          case first => as_aux_lemma =>
            by_cases hc : i < m ∧ m < e
            · have hcon := rotate_any L enc blk off cap i m e d0 d w0 wc (.func (.func g) #[] cb) R hs.symm S1.out hc.1 hc.2 (by omega) (by omega)
              try rw [hs] at hcon
              have hdc : decide (i < m ∧ m < e) = true := decide_eq_true hc
              go_wp2_with (go_at_fn 96; refine hcon.mono ?_; rintro e' w2 ⟨rfl, S2⟩; have S3 : Aside _ := S2; clear S2)
              go_meet
              case rel => rw [HD1.out, if_pos hc]; exact S3
            · have hdc : decide (i < m ∧ m < e) = false := decide_eq_false hc
              go_wp2_with fail
              go_meet
              case rel => rw [HD1.out, if_neg hc]; exact S1
          case rest =>
            clear S1
            have S1 := hcut
            clear hcut
            go_upto_region 41 with fail
            go_cut [199] (fun s wx => s = .bool (decide (a < i ∧ i < mid)) ∧ Aside (SWK enc k w0 blk off d1 wx))
            case first => as_aux_lemma =>
              by_cases h1 : a < i
              · by_cases h2 : i < mid
                · go_wp2_with fail
                  go_meet
                  case rel => exact ⟨by rw [decide_eq_true (And.intro h1 h2)], S1⟩
                · go_wp2_with fail
                  go_meet
                  case rel => exact ⟨by rw [decide_eq_false (fun h => h2 h.2)], S1⟩
              · go_wp2_with fail
                go_meet
                case rel => exact ⟨by rw [decide_eq_false (fun h => h1 h.1)], S1⟩
            case rest =>
              clear S1
              obtain ⟨rfl, S1⟩ := hcut
              go_upto_if 199 with fail
              go_cut [] (fun wx => Aside (SWK enc k w0 blk off d2 wx))
              case first => as_aux_lemma =>
                by_cases hc : a < i ∧ i < mid
                · have hcon := IH.out a i mid d1 wc (by omega) hc.1 hc.2 (by omega) hs1 S1.out
                  try rw [hs] at hcon
                  have hdc : decide (a < i ∧ i < mid) = true := decide_eq_true hc
                  go_wp2_with (go_at_fn 84; refine hcon.mono ?_; rintro e' w2 ⟨rfl, S2⟩; have S3 : Aside _ := S2; clear S2)
                  go_meet
                  case rel => rw [HD2.out, if_pos hc]; exact S3
                · have hdc : decide (a < i ∧ i < mid) = false := decide_eq_false hc
                  go_wp2_with fail
                  go_meet
                  case rel => rw [HD2.out, if_neg hc]; exact S1
              case rest =>
                clear S1
                have S1 := hcut
                clear hcut
                go_upto_region 43 with fail
                go_cut [213] (fun s wx => s = .bool (decide (mid < e ∧ e < b)) ∧ Aside (SWK enc k w0 blk off d2 wx))
                case first => as_aux_lemma =>
                  by_cases h1 : mid < e
                  · by_cases h2 : e < b
                    · go_wp2_with fail
                      go_meet
                      case rel => exact ⟨by rw [decide_eq_true (And.intro h1 h2)], S1⟩
                    · go_wp2_with fail
                      go_meet
                      case rel => exact ⟨by rw [decide_eq_false (fun h => h2 h.2)], S1⟩
                  · go_wp2_with fail
                    go_meet
                    case rel => exact ⟨by rw [decide_eq_false (fun h => h1 h.1)], S1⟩
                case rest =>
                  clear S1
                  obtain ⟨rfl, S1⟩ := hcut
                  by_cases hc : mid < e ∧ e < b
                  · as_aux_lemma =>
                    have hcon := IH.out mid e b d2 wc (by omega) hc.1 hc.2 (by omega) hs2 S1.out
                    have hdc : decide (mid < e ∧ e < b) = true := decide_eq_true hc
                    go_wp2_with (go_at_fn 84; refine hcon.mono ?_; rintro e' w2 ⟨rfl, S2⟩; have S3 : Aside _ := S2; clear S2)
                    go_end0
                    refine ⟨rfl, ?_⟩
                    rw [HF.out, if_pos hc]; exact S3.out
                  · as_aux_lemma =>
                    have hdc : decide (mid < e ∧ e < b) = false := decide_eq_false hc
                    go_wp2_with fail
                    go_end0
                    refine ⟨rfl, ?_⟩
                    rw [HF.out, if_neg hc]; exact S1.out

end Go.Proofs.YtebkmpgmcldeoaaDoor
