/- The reader of edits. -/
import Derived.Test.YtebkmpgmcldeoaaDoorT
namespace Go.Proofs.YtebkmpgmcldeoaaDoor
open Go.RowKit
set_option linter.unusedVariables false

/-- a reader: what is left, and whether something was wrong -/
structure RS where
  l : List UInt8
  bad : Bool

def takeR (s : RS) (most : Nat) : RS × Nat := if (getL s.l).2.2 ≠ 0 ∨ most < (getL s.l).1 ∨ s.bad = true then (⟨s.l, true⟩, 0) else (⟨s.l.drop (getL s.l).2.1, s.bad⟩, (getL s.l).1)
def textR (s : RS) : RS × List UInt8 :=
  if (takeR s 128).1.l.length < (takeR s 128).2 ∨ (takeR s 128).1.bad = true then (⟨(takeR s 128).1.l, true⟩, []) else
  (⟨(takeR s 128).1.l.drop (takeR s 128).2, (takeR s 128).1.bad⟩, (takeR s 128).1.l.take (takeR s 128).2)

/-- The block r is a reader. -/
def RdrIs (w : World) (r : Nat) (s : RS) : Prop := ∃ x, w.heap[r]? = some (.cells #[x, .bool s.bad] 91 (0, 0)) ∧ RdB w x s.l ∧ (∀ k, x.ownBlock = some k → k < r) ∧ s.l.length ≤ 4294967000

theorem RdrIs.keep {w w' : World} {r : Nat} {s : RS} (h : RdrIs w r s) (hk : ∀ k, k ≤ r → w'.heap[k]? = w.heap[k]?) : RdrIs w' r s := by
  obtain ⟨x, h1, h2, h3, h4⟩ := h
  exact ⟨x, (hk r (Nat.le_refl _)).trans h1, h2.keep fun k hk' => hk k (Nat.le_of_lt (h3 k hk')), h3, h4⟩

theorem getAux_le : ∀ (l : List UInt8) (i n : Nat), (getAux i n l).2.1 ≤ i + l.length
  | [], i, n => by simp [getAux]
  | c :: r, i, n => by
    unfold getAux
    split
    · simp
    · split
      · split
        · simp
        · simp
      · have := getAux_le r (i + 1) (n + c.toNat % 128 * 128 ^ i)
        simp only [List.length_cons]; omega
theorem getL_le (l : List UInt8) : (getL l).2.1 ≤ l.length := by have := getAux_le l 0 0; unfold getL; omega
theorem takeR_len (s : RS) (m : Nat) : (takeR s m).1.l.length ≤ s.l.length ∧ (takeR s m).2 ≤ m := by
  unfold takeR
  split
  · exact ⟨Nat.le_refl _, Nat.zero_le _⟩
  · rename_i h
    refine ⟨by simp, ?_⟩
    show (getL s.l).1 ≤ m
    omega

set_option maxHeartbeats 800000 in
set_option maxRecDepth 100000 in
theorem take_calls (w : World) {r : Nat} {s : RS} (hr : RdrIs w r s) (most : Nat) (hm : most < 18446744073709551616) :
    Calls Tryd.prog 44 #[.pointer (some ⟨r, 0, none⟩), .int .u64 most] w fun e w' => e = .returned (.int .u64 (takeR s most).2) ∧ RdrIs w' r (takeR s most).1 ∧ Keep (· = r) w w' := by
  obtain ⟨x, h1, h2, h3, h4⟩ := hr
  have hg := get_calls w h2 (by omega)
  obtain ⟨_, A, c, hxe, hc, hA, _⟩ := id h2
  have c0 := cell_of_heap h1 0
  have c1 := cell_of_heap h1 1
  have f0 := free_of_heap h1 0
  have f1 := free_of_heap h1 1
  subst hxe
  have hgl := getL_le s.l
  obtain ⟨⟨n, k, e⟩, hnke⟩ : ∃ q, getL s.l = q := ⟨_, rfl⟩
  have hT : takeR s most = if e ≠ 0 ∨ most < n ∨ s.bad = true then (⟨s.l, true⟩, 0) else (⟨s.l.drop k, s.bad⟩, n) := by unfold takeR; rw [hnke]
  rw [hnke] at hg hgl
  simp only at hg hgl
  have hlt : ∀ q, (Value.slice A s.l.length c).ownBlock = some q → q < w.heap.size ∧ ¬ (q = r) := fun q hq => ⟨Nat.lt_trans (h3 q hq) (lt_of_heap h1), by have := h3 q hq; omega⟩
  by_cases hbad : e ≠ 0 ∨ most < n ∨ s.bad = true
  · have HT := Lib.hid (show takeR s most = (⟨s.l, true⟩, 0) by rw [hT, if_pos hbad])
    have HK := Lib.hid ((Keep.refl (· = r) w).set _ r 1 rfl (.bool true))
    have HR := Lib.hid (show RdrIs (w.setCell ⟨r, 1, none⟩ (.bool true)) r ⟨s.l, true⟩ from ⟨_, heap_setCell_same h1 _ _, h2.keeps HK.out hlt, h3, h4⟩)
    clear hT h1 h2 h3 hlt hnke hA
    by_cases he : e = 0
    · have heb : ((e : Int) != 0) = false := by rw [bne_eq_false_iff_eq]; omega
      by_cases hmn : most < n
      · clear hbad he
        go_enter Tryd.func44, Tryd.ntmps44
        go_wp2_with fail
        refine hg.mono ?_
        rintro e' w' ⟨rfl, rfl⟩
        go_wp2
        go_ret
        exact ⟨by rw [HT.out]; rfl, by rw [HT.out]; exact HR.out, HK.out⟩
      · have hb : s.bad = true := by
          rcases hbad with h | h | h
          · exact absurd he h
          · exact absurd h hmn
          · exact h
        simp only [hb] at c1
        clear hbad he hb
        go_enter Tryd.func44, Tryd.ntmps44
        go_wp2_with fail
        refine hg.mono ?_
        rintro e' w' ⟨rfl, rfl⟩
        go_wp2
        go_ret
        exact ⟨by rw [HT.out]; rfl, by rw [HT.out]; exact HR.out, HK.out⟩
    · have heb : ((e : Int) != 0) = true := by rw [bne_iff_ne]; omega
      clear hbad he
      go_enter Tryd.func44, Tryd.ntmps44
      go_wp2_with fail
      refine hg.mono ?_
      rintro e' w' ⟨rfl, rfl⟩
      go_wp2
      go_ret
      exact ⟨by rw [HT.out]; rfl, by rw [HT.out]; exact HR.out, HK.out⟩
  · have he : e = 0 := by omega
    have hmn : ¬ most < n := by omega
    have hb : s.bad = false := by
      cases h : s.bad
      · rfl
      · exact absurd (.inr (.inr h)) hbad
    obtain ⟨x1, hx1, hr1, hb1⟩ := h2.cut_l k hgl
    obtain ⟨_, A1, c1', hxe1, _⟩ := id hr1
    subst hxe1
    have HT := Lib.hid (show takeR s most = (⟨s.l.drop k, s.bad⟩, n) by rw [hT, if_neg hbad])
    have HK := Lib.hid ((Keep.refl (· = r) w).set _ r 0 rfl (.slice A1 (s.l.drop k).length c1'))
    have HR := Lib.hid (show RdrIs (w.setCell ⟨r, 0, none⟩ (.slice A1 (s.l.drop k).length c1')) r ⟨s.l.drop k, s.bad⟩ from
      ⟨_, heap_setCell_same h1 _ _, hr1.keeps HK.out (fun q hq => hlt q (hb1 ▸ hq)), fun q hq => h3 q (hb1 ▸ hq), by simp; omega⟩)
    have heb : ((e : Int) != 0) = false := by rw [bne_eq_false_iff_eq]; omega
    simp only [hb] at c1
    clear hT h1 h2 h3 hlt hnke hA hbad he hb hr1 hb1
    generalize (s.l.drop k).length = ln at *
    go_enter Tryd.func44, Tryd.ntmps44
    go_wp2_with fail
    refine hg.mono ?_
    rintro e' w' ⟨rfl, rfl⟩
    go_wp2
    go_ret
    exact ⟨by rw [HT.out]; rfl, by rw [HT.out]; exact HR.out, HK.out⟩

theorem takeR_bound (s : RS) (m : Nat) : (takeR s m).2 < 18446744073709551616 ∨ m ≥ 18446744073709551616 := by
  have := (takeR_len s m).2; omega

set_option maxHeartbeats 800000 in
set_option maxRecDepth 100000 in
theorem text_calls (w : World) {r : Nat} {s : RS} (hr : RdrIs w r s) :
    Calls Tryd.prog 45 #[.pointer (some ⟨r, 0, none⟩)] w fun e w' => e = .returned (.string ⟨(textR s).2.toArray⟩) ∧ RdrIs w' r (textR s).1 ∧ Keep (· = r) w w' := by
  have hc := take_calls w hr 128 (by omega)
  have hn := (takeR_len s 128).2
  obtain ⟨⟨s1, n⟩, hsn⟩ : ∃ q, takeR s 128 = q := ⟨_, rfl⟩
  have hT : textR s = if s1.l.length < n ∨ s1.bad = true then (⟨s1.l, true⟩, []) else (⟨s1.l.drop n, s1.bad⟩, s1.l.take n) := by unfold textR; rw [hsn]
  rw [hsn] at hc hn
  simp only at hc hn
  have HT := Lib.hid hT
  clear hr hsn hT
  go_enter Tryd.func45, Tryd.ntmps45
  go_wp2_with fail
  refine hc.mono ?_
  rintro e w1 ⟨rfl, ⟨x, h1, h2, h3, h4⟩, hk⟩
  obtain ⟨_, A, c, hxe, hc', hA, _⟩ := id h2
  subst hxe
  have c0 := cell_of_heap h1 0
  have c1 := cell_of_heap h1 1
  have f0 := free_of_heap h1 0
  have f1 := free_of_heap h1 1
  have hlt : ∀ q, (Value.slice A s1.l.length c).ownBlock = some q → q < w1.heap.size ∧ ¬ (q = r) := fun q hq => ⟨Nat.lt_trans (h3 q hq) (lt_of_heap h1), by have := h3 q hq; omega⟩
  by_cases hbig : s1.l.length < n
  · have HF := Lib.hid (show textR s = (⟨s1.l, true⟩, []) by rw [HT.out, if_pos (.inl hbig)])
    have HK1 : Keep (· = r) w1 (w1.setCell ⟨r, 1, none⟩ (.bool true)) := (Keep.refl (· = r) w1).set _ r 1 rfl (.bool true)
    have HR := Lib.hid (show RdrIs (w1.setCell ⟨r, 1, none⟩ (.bool true)) r ⟨s1.l, true⟩ from ⟨_, heap_setCell_same h1 _ _, h2.keeps HK1 hlt, h3, h4⟩)
    have HK := Lib.hid (hk.trans HK1)
    clear h1 h2 h3 hlt hA HK1 hk
    go_wp2
    go_ret
    exact ⟨by rw [HF.out]; rfl, by rw [HF.out]; exact HR.out, HK.out⟩
  · by_cases hb : s1.bad = true
    · have HF := Lib.hid (show textR s = (⟨s1.l, true⟩, []) by rw [HT.out, if_pos (.inr hb)])
      have HR := Lib.hid (show RdrIs w1 r ⟨s1.l, true⟩ from ⟨_, by rw [← hb]; exact h1, h2, h3, h4⟩)
      have HK := Lib.hid hk
      simp only [hb] at c1
      clear h1 h2 h3 hlt hA hk hb
      go_wp2
      go_ret
      exact ⟨by rw [HF.out]; rfl, by rw [HF.out]; exact HR.out, HK.out⟩
    · have hbf : s1.bad = false := by simpa using hb
      have HF := Lib.hid (show textR s = (⟨s1.l.drop n, s1.bad⟩, s1.l.take n) by rw [HT.out, if_neg (by rintro (h | h); exact hbig h; exact hb h)])
      obtain ⟨x1, hx1, hr1, hb1⟩ := h2.cut_hk n (by omega)
      obtain ⟨x2, hx2, hr2, hb2⟩ := h2.cut_lk n (by omega)
      have hcv := conv_text hr1
      obtain ⟨_, A2, c2, hxe2, _⟩ := id hr2
      subst hxe2
      have HK1 : Keep (· = r) w1 (w1.setCell ⟨r, 0, none⟩ (.slice A2 (s1.l.drop n).length c2)) := (Keep.refl (· = r) w1).set _ r 0 rfl _
      have HR := Lib.hid (show RdrIs (w1.setCell ⟨r, 0, none⟩ (.slice A2 (s1.l.drop n).length c2)) r ⟨s1.l.drop n, s1.bad⟩ from
        ⟨_, heap_setCell_same h1 _ _, hr2.keeps HK1 (fun q hq => hlt q (hb2 ▸ hq)), fun q hq => h3 q (hb2 ▸ hq), by simp; omega⟩)
      have HK := Lib.hid (hk.trans HK1)
      simp only [hbf] at c1
      clear h1 h2 h3 hlt hA HK1 hk hb hbf hr1 hr2 hb1 hb2
      generalize (s1.l.drop n).length = ln at *
      generalize s1.l.take n = tx at *
      go_wp2
      go_ret
      exact ⟨by rw [HF.out]; rfl, by rw [HF.out]; exact HR.out, HK.out⟩

end Go.Proofs.YtebkmpgmcldeoaaDoor
