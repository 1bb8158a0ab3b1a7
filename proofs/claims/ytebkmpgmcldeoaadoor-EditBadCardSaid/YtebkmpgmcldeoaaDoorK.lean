/- The disk's calls that turn it, on: Create, Rename. -/
import Derived.Test.YtebkmpgmcldeoaaDoorJ
namespace Go.Proofs.YtebkmpgmcldeoaaDoor
open Go.RowKit
set_option linter.unusedVariables false

section
variable {w : World} {d : Nat} {F : Nat → Prop} {p : PD} {σ : DiskS}

theorem DiskAt.below {σ : DiskS} (h : DiskAt w d F σ) {w' : World} (hB : Below w.heap.size w w') : DiskAt w' d F σ := h.keep fun k _ hk => hB.block k hk
theorem DiskIs.below (h : DiskIs w d F p) {w' : World} (hB : Below w.heap.size w w') : DiskIs w' d F p := h.keep fun k _ hk => hB.block k hk
theorem Stp.below (h : DiskIs w d F p) {w' : World} (hB : Below w.heap.size w w') : Stp F d w w' p := ⟨F, h.below hB, Keep.of_below hB, fun k hk => .inl hk⟩
theorem Stp.after {w1 w' : World} (hB : Below w.heap.size w w1) (h : Stp F d w1 w' p) : Stp F d w w' p := by
  obtain ⟨G, h1, h2, h3⟩ := h
  exact ⟨G, h1, (Keep.of_below hB).trans h2, fun k hk => (h3 k hk).elim .inl fun h => .inr (Nat.le_trans hB.size h)⟩
theorem Stp.cast {w' : World} {q : PD} (h : Stp F d w w' p) (e : p = q) : Stp F d w w' q := e ▸ h

/-- The world behind the laying of a new file. -/
def newFile (w : World) (m : Nat) (es : Array MapEntry) (c : Nat) : World := ChangeMaps.setBlock (w.alloc (.cells #[.slice none 0 0, .int .i64 0] 60)) m (.map es c)

set_option maxHeartbeats 800000 in
set_option maxRecDepth 100000 in
theorem create_calls (h : DiskIs w d F p) (s : ByteArray) (hs : s.size ≤ maxLen) :
    Calls Tryd.prog 6 #[.pointer (some ⟨d, 0, none⟩), .string s] w fun e w' => e = .returned (.int .i64 (p.createR s).2) ∧ Stp F d w w' (p.createR s).1 := by
  obtain ⟨σ, h, rfl⟩ := h
  have hn := named_calls w s hs
  unfold PD.createR
  cases hnm : PD.named s with
  | false =>
    rw [hnm] at hn
    have HS := Lib.hid (fun w' (hB : Below w.heap.size w w') => Stp.below ⟨σ, h, rfl⟩ hB)
    clear h hnm hs
    go_enter Tryd.func6, Tryd.ntmps6
    go_wp2_with fail
    refine hn.mono ?_
    rintro e w1 ⟨rfl, hB⟩
    have HS1 := Lib.hid (HS.out _ hB)
    clear hB
    go_wp2
    go_ret
    exact ⟨rfl, HS1.out⟩
  | true =>
    rw [hnm] at hn
    cases hd : σ.pub.down with
    | true =>
      have H := Lib.hid h
      have HD := Lib.hid hd
      clear h hnm hs hd
      go_enter Tryd.func6, Tryd.ntmps6
      go_wp2_with fail
      refine hn.mono ?_
      rintro e w1 ⟨rfl, hB⟩
      have hc := find_down (H.out.below hB) HD.out s
      have HS := Lib.hid (Stp.below ⟨σ, H.out, rfl⟩ hB)
      clear hB
      go_wp2_with fail
      refine hc.mono ?_
      rintro e w' ⟨rfl, rfl⟩
      go_wp2
      go_ret
      exact ⟨rfl, HS.out⟩
    | false =>
      cases hj : σ.pub.at? s with
      | some j =>
        have H := Lib.hid h
        have HD := Lib.hid hd
        have HJ := Lib.hid hj
        have hlt := DiskAt.at_lt hj
        clear h hnm hs hd
        go_enter Tryd.func6, Tryd.ntmps6
        go_wp2_with fail
        refine hn.mono ?_
        rintro e w1 ⟨rfl, hB⟩
        have hc := find_hit (H.out.below hB) HD.out HJ.out
        have HS := Lib.hid (Stp.below ⟨σ, H.out, rfl⟩ hB)
        clear hB
        generalize σ.files[j] = f at *
        go_wp2_with fail
        refine hc.mono ?_
        rintro e w' ⟨rfl, rfl⟩
        go_wp2
        go_ret
        exact ⟨rfl, HS.out⟩
      | none =>
        cases hsd : σ.pub.stepped.down with
        | true =>
          have H := Lib.hid h
          have HD := Lib.hid hd
          have HJ := Lib.hid hj
          have HSD := Lib.hid hsd
          clear h hnm hs hd hj hsd
          go_enter Tryd.func6, Tryd.ntmps6
          go_wp2_with fail
          refine hn.mono ?_
          rintro e w1 ⟨rfl, hB⟩
          have hc := find_miss (H.out.below hB) HD.out HJ.out
          have hst := step_off (H.out.below hB) HSD.out
          have HB := Lib.hid hB
          clear hB
          go_wp2_with fail
          refine hc.mono ?_
          rintro e w' ⟨rfl, rfl⟩
          go_wp2_with fail
          refine hst.mono ?_
          rintro e w2 ⟨rfl, h1⟩
          have HS := Lib.hid (Stp.after HB.out h1)
          clear h1
          go_wp2
          go_ret
          exact ⟨rfl, HS.out⟩
        | false =>
          have H := Lib.hid h
          have HD := Lib.hid hd
          have HJ := Lib.hid hj
          have HSD := Lib.hid hsd
          clear h hnm hs hd hj hsd
          go_enter Tryd.func6, Tryd.ntmps6
          go_wp2_with fail
          refine hn.mono ?_
          rintro e w1 ⟨rfl, hB⟩
          have hc := find_miss (H.out.below hB) HD.out HJ.out
          have hst := step_on (H.out.below hB) HSD.out
          have HB := Lib.hid hB
          clear hB
          go_wp2_with fail
          refine hc.mono ?_
          rintro e w' ⟨rfl, rfl⟩
          go_wp2_with fail
          refine hst.mono ?_
          rintro e w2 ⟨rfl, τ, h1, hfe, hue, hre, hpe, hk⟩
          have hjt : at? s (entsOf τ.files) = none := by rw [hfe]; exact (DiskAt.at? σ s).trans HJ.out
          have hjp : τ.pub.at? s = none := (DiskAt.at? τ s).symm.trans hjt
          have d2 := cell_of_heap h1.head 2
          have hmap : (w2.alloc (.cells #[.slice none 0 0, .int .i64 0] 60)).heap[τ.m]? = some (.map (ents (entsOf τ.files)) τ.clock) := by
            rw [Below.heap_alloc _ _ _ h1.lt_m]; exact h1.map
          have hup := update_miss (P := Tryd.prog) tyMap tyStr hmap hjt w2.heap.size
          have HS : Hid (Stp F d w (newFile w2 τ.m (ents (entsOf τ.files ++ [(s, w2.heap.size, τ.clock)])) (τ.clock + 1)) { σ.pub.stepped with files := σ.pub.files ++ [(s, [], 0)] }) := by
            refine ⟨_, ⟨_, h1.created (b := w2.heap.size) hjp (Nat.le_refl _) ?_ ?_ ?_, ?_⟩, ?_, ?_⟩
            · unfold newFile; rw [heap_setBlock_ne (by have := h1.lt_m; omega)]; exact heap_alloc_new w2 _
            · unfold newFile; exact heap_setBlock_self (lt_of_heap hmap)
            · intro k hkl hkm
              unfold newFile; rw [heap_setBlock_ne hkm, Below.heap_alloc _ _ _ hkl]
            · rw [pub_append, hpe, (PD.stepped_files _).1]
            · exact ((Keep.of_below HB.out).trans hk).trans ((Keep.alloc F _ _).trans (Keep.setBlock _ h1.footM _))
            · rintro k (h | rfl)
              · exact .inl h
              · exact .inr (Nat.le_trans HB.out.size hk.size)
          unfold newFile at HS
          clear h1 hfe hue hre hk hpe hjt hjp hmap
          go_wp2
          go_ret
          exact ⟨rfl, HS.out⟩

theorem sum_erase : ∀ (l : List FileE) (j : Nat) (hj : j < l.length), (l.map fun f => f.data.length).sum = ((l.eraseIdx j).map fun f => f.data.length).sum + (l[j]).data.length := by
  intro l
  induction l with
  | nil => intro j hj; cases hj
  | cons a l ih =>
    intro j hj
    cases j with
    | zero => simp; omega
    | succ j =>
      have := ih j (by simpa using hj)
      simp only [List.eraseIdx_cons_succ, List.map_cons, List.sum_cons, List.getElem_cons_succ]
      omega

/-- Which files there are when one has gone. -/
theorem mem_erase {l : List FileE} {j : Nat} {f : FileE} (hf : f ∈ l.eraseIdx j) : ∃ m, ∃ hm : m < l.length, m ≠ j ∧ f = l[m] := by
  rw [List.mem_eraseIdx_iff_getElem] at hf
  obtain ⟨m, hm, hne, rfl⟩ := hf
  exact ⟨m, hm, hne, rfl⟩

/-- A file's name becomes another one that there isn't yet. -/
theorem DiskAt.renamed (h : DiskAt w d F σ) {s t : ByteArray} {j : Nat} (hj : σ.pub.at? s = some j) (ht : σ.pub.at? t = none) {w' : World}
    (hm : w'.heap[σ.m]? = some (.map (ents ((entsOf σ.files ++ [(t, (σ.files[j]'(DiskAt.at_lt hj)).blk, σ.clock)]).eraseIdx j)) (σ.clock + 1)))
    (hk : ∀ k, k < w.heap.size → k ≠ σ.m → w'.heap[k]? = w.heap[k]?) :
    DiskAt w' d F { σ with files := (σ.files ++ [{ σ.files[j]'(DiskAt.at_lt hj) with name := t, born := σ.clock }]).eraseIdx j, clock := σ.clock + 1 } := by
  have hjl := DiskAt.at_lt hj
  have hmj := List.getElem_mem hjl
  have hold : ∀ f, f ∈ σ.files → FileAt w' f := fun f hf => (h.file f hf).keep (hk _ (h.lt_blk hf) (h.ne_blk_m hf)) fun k hkk => hk k ((h.file f hf).2.1.lt k hkk) (h.ne_arr_m hf hkk)
  have he : (σ.files ++ [{ σ.files[j] with name := t, born := σ.clock }]).eraseIdx j = σ.files.eraseIdx j ++ [{ σ.files[j] with name := t, born := σ.clock }] := List.eraseIdx_append_of_lt_length hjl _
  have hsub : (σ.files.eraseIdx j).Sublist σ.files := List.eraseIdx_sublist _ _
  refine { head := ?_, map := ?_, file := ?_, apart := ?_, footD := h.footD, footM := h.footM, footF := ?_, used := ?_, room := h.room, fuse := h.fuse }
  · show w'.heap[d]? = _
    rw [hk d h.lt_d (fun e => h.ne_m e.symm)]; exact h.head
  · show w'.heap[σ.m]? = some (.map (ents (entsOf ((σ.files ++ [{ σ.files[j] with name := t, born := σ.clock }]).eraseIdx j))) (σ.clock + 1))
    rw [hm]
    unfold entsOf
    rw [ChangeMaps.map_eraseIdx, List.map_append]
    rfl
  · intro f hf
    simp only at hf
    rw [he] at hf
    rcases List.mem_append.1 hf with h1 | h1
    · exact hold f (hsub.subset h1)
    · rcases List.mem_singleton.1 h1 with rfl
      exact ⟨(hold _ hmj).1, (hold _ hmj).2.1, (hold _ hmj).2.2⟩
  · simp only
    rw [he, List.pairwise_append]
    refine ⟨h.apart.sublist hsub, List.pairwise_singleton _ _, fun f hf g hg => ?_⟩
    rcases List.mem_singleton.1 hg with rfl
    obtain ⟨m, hml, hne, rfl⟩ := mem_erase hf
    obtain ⟨_, h2, h3⟩ := h.two hml hjl hne
    refine ⟨fun e => ?_, h2, ?_⟩
    · unfold PD.at? at ht
      rw [List.findIdx?_eq_none_iff] at ht
      have := ht (σ.files[m].name, σ.files[m].data, σ.files[m].sure) (by unfold DiskS.pub; exact List.mem_map_of_mem (List.getElem_mem hml))
      simp [e] at this
    · cases hv : (σ.files[m]).v.ownBlock with
      | none => exact .inl rfl
      | some q => exact .inr fun e => h3 q hv e.symm
  · intro f hf
    simp only at hf
    rw [he] at hf
    rcases List.mem_append.1 hf with h1 | h1
    · exact h.footF f (hsub.subset h1)
    · rcases List.mem_singleton.1 h1 with rfl
      exact ⟨(h.footF _ hmj).1, (h.footF _ hmj).2⟩
  · have h1 := h.used
    have h2 := sum_erase σ.files j hjl
    simp only
    rw [he, List.map_append, List.sum_append]
    simp only [List.map_cons, List.map_nil, List.sum_cons, List.sum_nil]
    omega

theorem at?_append {s : ByteArray} {l : List Ent} {j : Nat} (h : at? s l = some j) (x : Ent) : at? s (l ++ [x]) = some j := by
  unfold at? at *
  rw [List.findIdx?_append, h]; rfl

set_option maxHeartbeats 1600000 in
set_option maxRecDepth 100000 in
theorem rename_new (h : DiskIs w d F p) (s t : ByteArray) (hs : t.size ≤ maxLen) (ht : p.at? t = none) :
    Calls Tryd.prog 56 #[.pointer (some ⟨d, 0, none⟩), .string s, .string t] w fun e w' => e = .returned (.int .i64 (p.renameR s t).2) ∧ Stp F d w w' (p.renameR s t).1 := by
  obtain ⟨σ, h, rfl⟩ := h
  have hn := named_calls w t hs
  unfold PD.renameR
  cases hnm : PD.named t with
  | false =>
    rw [hnm] at hn
    have HS := Lib.hid (fun w' (hB : Below w.heap.size w w') => Stp.below ⟨σ, h, rfl⟩ hB)
    clear h hnm hs ht
    go_enter Tryd.func56, Tryd.ntmps56
    go_wp2_with fail
    refine hn.mono ?_
    rintro e w1 ⟨rfl, hB⟩
    have HS1 := Lib.hid (HS.out _ hB)
    clear hB
    go_wp2
    go_ret
    exact ⟨rfl, HS1.out⟩
  | true =>
    rw [hnm] at hn
    cases hd : σ.pub.down with
    | true =>
      have H := Lib.hid h
      have HD := Lib.hid hd
      clear h hnm hs hd ht
      go_enter Tryd.func56, Tryd.ntmps56
      go_wp2_with fail
      refine hn.mono ?_
      rintro e w1 ⟨rfl, hB⟩
      have hc := find_down (H.out.below hB) HD.out s
      have HS := Lib.hid (Stp.below ⟨σ, H.out, rfl⟩ hB)
      clear hB
      go_wp2_with fail
      refine hc.mono ?_
      rintro e w' ⟨rfl, rfl⟩
      go_wp2
      go_ret
      exact ⟨rfl, HS.out⟩
    | false =>
      cases hj : σ.pub.at? s with
      | none =>
        have H := Lib.hid h
        have HD := Lib.hid hd
        have HJ := Lib.hid hj
        clear h hnm hs hd hj ht
        go_enter Tryd.func56, Tryd.ntmps56
        go_wp2_with fail
        refine hn.mono ?_
        rintro e w1 ⟨rfl, hB⟩
        have hc := find_miss (H.out.below hB) HD.out HJ.out
        have HS := Lib.hid (Stp.below ⟨σ, H.out, rfl⟩ hB)
        clear hB
        go_wp2_with fail
        refine hc.mono ?_
        rintro e w' ⟨rfl, rfl⟩
        go_wp2
        go_ret
        exact ⟨rfl, HS.out⟩
      | some j =>
        have hlt := DiskAt.at_lt hj
        cases hsd : σ.pub.stepped.down with
        | true =>
          have H := Lib.hid h
          have HD := Lib.hid hd
          have HJ := Lib.hid hj
          have HSD := Lib.hid hsd
          clear h hnm hs hd hsd ht
          go_enter Tryd.func56, Tryd.ntmps56
          go_wp2_with fail
          refine hn.mono ?_
          rintro e w1 ⟨rfl, hB⟩
          have hc := find_hit (H.out.below hB) HD.out HJ.out
          have hst := step_off (H.out.below hB) HSD.out
          have HB := Lib.hid hB
          clear hB
          generalize σ.files[j] = f at *
          go_wp2_with fail
          refine hc.mono ?_
          rintro e w' ⟨rfl, rfl⟩
          go_wp2_with fail
          refine hst.mono ?_
          rintro e w2 ⟨rfl, h1⟩
          have HS := Lib.hid (Stp.after HB.out h1)
          clear h1
          go_wp2
          go_ret
          exact ⟨rfl, HS.out⟩
        | false =>
          have hst' : s ≠ t := by rintro rfl; rw [hj] at ht; cases ht
          have hb1 : (s.toList == t.toList) = false := by rw [← beq_toListBytes]; simp [hst']
          simp only [if_neg hst', ht]
          have H := Lib.hid h
          have HD := Lib.hid hd
          have HJ := Lib.hid hj
          have HT := Lib.hid ht
          have HSD := Lib.hid hsd
          have HP := Lib.hid (pub_files σ hj)
          clear h hnm hs hd hsd ht hst'
          go_enter Tryd.func56, Tryd.ntmps56
          go_wp2_with fail
          refine hn.mono ?_
          rintro e w1 ⟨rfl, hB⟩
          have hc := find_hit (H.out.below hB) HD.out HJ.out
          have hst := step_on (H.out.below hB) HSD.out
          have HB := Lib.hid hB
          clear hB
          go_wp2_with fail
          refine hc.mono ?_
          rintro e w' ⟨rfl, rfl⟩
          go_wp2_with fail
          refine hst.mono ?_
          rintro e w2 ⟨rfl, τ, h1, hfe, hue, hre, hpe, hk⟩
          have hlt' : j < τ.files.length := by rw [hfe]; exact hlt
          have hfj : τ.files[j]'hlt' = σ.files[j] := by simp only [hfe]
          have hjs : at? s (entsOf τ.files) = some j := by rw [hfe]; exact (DiskAt.at? σ s).trans HJ.out
          have hjt : at? t (entsOf τ.files) = none := by rw [hfe]; exact (DiskAt.at? σ t).trans HT.out
          have hjp : τ.pub.at? t = none := (DiskAt.at? τ t).symm.trans hjt
          have hjq : τ.pub.at? s = some j := (DiskAt.at? τ s).symm.trans hjs
          have d2 := cell_of_heap h1.head 2
          have hl1 := lookup_miss (P := Tryd.prog) tyMap tyStr h1.map hjt (zeroFile w2)
          have hup := update_miss (P := Tryd.prog) tyMap tyStr h1.map hjt (σ.files[j]).blk
          have hmap : (ChangeMaps.setBlock w2 τ.m (.map (ents (entsOf τ.files ++ [(t, (σ.files[j]).blk, τ.clock)])) (τ.clock + 1))).heap[τ.m]? = some (.map (ents (entsOf τ.files ++ [(t, (σ.files[j]).blk, τ.clock)])) (τ.clock + 1)) := heap_setBlock_self h1.lt_m
          have hdel := fun ty => delete_hit (P := Tryd.prog) (ty := ty) tyMap tyStr hmap (at?_append hjs _)
          have d2' : (ChangeMaps.setBlock w2 τ.m (.map (ents (entsOf τ.files ++ [(t, (σ.files[j]).blk, τ.clock)])) (τ.clock + 1))).cell? ⟨d, 2, none⟩ = some (.map (some τ.m)) := by
            rw [cell_of_heap (by rw [heap_setBlock_ne (Ne.symm h1.ne_m)]; exact h1.head)]; rfl
          have HS : Hid (Stp F d w (ChangeMaps.setBlock (ChangeMaps.setBlock w2 τ.m (.map (ents (entsOf τ.files ++ [(t, (σ.files[j]).blk, τ.clock)])) (τ.clock + 1))) τ.m (.map (ents ((entsOf τ.files ++ [(t, (σ.files[j]).blk, τ.clock)]).eraseIdx j)) (τ.clock + 1)))
              { σ.pub.stepped with files := (σ.pub.files ++ [(t, σ.pub.dataAt j, σ.pub.sureAt j)]).eraseIdx j }) := by
            refine ⟨F, ⟨_, h1.renamed hjq hjp ?_ ?_, ?_⟩, ?_, fun k hk => .inl hk⟩
            · rw [heap_setBlock_self (lt_of_heap hmap), hfj]
            · intro k hkl hkm
              rw [heap_setBlock_ne hkm, heap_setBlock_ne hkm]
            · rw [← hpe, hfj, HP.out.1, HP.out.2]
              unfold DiskS.pub
              simp only [ChangeMaps.map_eraseIdx, List.map_append, List.map_cons, List.map_nil, hfe]
            · exact ((Keep.of_below HB.out).trans hk).trans ((Keep.setBlock _ h1.footM _).trans (Keep.setBlock _ h1.footM _))
          generalize σ.files[j] = f at *
          clear h1 hfe hue hre hk hpe hjt hjp hmap hlt hlt' hjs hjq hfj
          go_wp2
          go_ret
          exact ⟨rfl, HS.out⟩
end

end Go.Proofs.YtebkmpgmcldeoaaDoor
