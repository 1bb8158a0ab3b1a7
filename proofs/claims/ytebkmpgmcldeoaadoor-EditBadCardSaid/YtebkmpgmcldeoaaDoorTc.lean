/- EditBad, walked. -/
import Derived.Test.YtebkmpgmcldeoaaDoorSv
import Derived.Test.YtebkmpgmcldeoaaDoorSy
import Derived.Laws.BitsLemmas
import Derived.Deep.Cut
import Derived.Deep.CutRange
import Derived.Deep.DeepCutAuto
/- What a new disk is, when one file's version was made to last: in plain words. -/
namespace Go.Proofs.YtebkmpgmcldeoaaDoor
open Go Go.Proofs Go.RowKit Go.Sort
set_option linter.unusedVariables false

def meta1 : Meta := ⟨1, 0, ⟨#[97]⟩, ⟨#[98]⟩, 5⟩
def edit1 (lg : Int) : EditP := ⟨[meta1], [], lg, 2, 0⟩
def v1 : VersP := ⟨[meta1], 1, 2, 0⟩
def bytes1 : List UInt8 := [1, 2, 0, 0, 1, 1, 0, 5, 1, 97, 1, 98]
theorem sort_one {cf : BM → BM → Int} (hO : SWO (ltOf cf)) {m : Meta} (hb : boundM m) : sortCf cf [m] = [m] := by
  have := sortCf_perm hO (l := [m]) (by simpa using hb)
  exact List.perm_singleton.1 this
theorem sort_nil {cf : BM → BM → Int} (hO : SWO (ltOf cf)) : sortCf cf [] = [] := List.Perm.eq_nil (sortCf_perm hO (l := []) (by simp))
theorem meta1_bound : boundM meta1 := by unfold boundM meta1; decide
theorem check_v1 : checkR v1 = 0 := by
  have h1 : headOk v1.log v1.next v1.seq = true := by decide
  have h2 : (List.range v1.files.length).all (fileOk v1.next v1.files) = true := by
    have e : okM meta1 = true := by
      have e1 : meta1.low.toList = [97] := by kernel_rfl
      have e2 : meta1.high.toList = [98] := by kernel_rfl
      unfold okM
      rw [decide_eq_true_eq, e1, e2]
      exact ⟨by decide, by decide, by decide, by decide, by decide, .inl (by decide), by decide, by decide, by decide, by decide⟩
    show ([0].all (fileOk 2 [meta1])) = true
    simp only [List.all_cons, List.all_nil, Bool.and_true]
    unfold fileOk
    simp only [List.getD_cons_zero, e]
    decide
  have h3 : (List.range' 1 5).all (levelOk v1.files) = true := by
    rw [List.all_eq_true]
    intro n hn
    simp [List.mem_range'_1] at hn
    have e : ofL (n : Int) v1.files = [] := by
      unfold ofL v1 meta1
      rw [List.filter_eq_nil_iff]
      intro m hm
      simp at hm
      subst hm
      simp; omega
    unfold levelOk
    rw [e, sort_nil lowSWO]; rfl
  unfold checkR
  rw [h1, h2, h3]
  simp [v1]
theorem apply_one (lg : Int) (h : lg = 0 ∨ lg = 1) : applyR firstV (edit1 lg) = (v1, 0) := by
  have e : appliedV firstV (edit1 lg) = v1 := by
    unfold appliedV firstV edit1 v1 keptL upI upN
    simp only [List.filter_nil, List.nil_append, sort_one numSWO meta1_bound]
    rcases h with rfl | rfl <;> simp
  have hb : applyBad firstV (edit1 lg) = false := by
    unfold applyBad firstV edit1 keptL upI upN
    rcases h with rfl | rfl <;> simp
  unfold applyR
  rw [hb, e, check_v1]
  simp
theorem enc_one : encL (allE v1) = bytes1 := by
  have h : ∀ n, n < 128 → putL n = [UInt8.ofNat n] := fun n h => putL_small h
  unfold encL allE v1 metaL txtL meta1
  simp only [List.length_nil, List.flatMap_nil, List.length_cons, List.flatMap_cons, List.append_nil]
  rw [h _ (by decide), h _ (by decide), h _ (by decide), h _ (by decide), h _ (by decide), h _ (by decide), h _ (by decide), h _ (by decide)]
  rfl
theorem dec_one : decodeR bytes1 = (edit1 1, 0) := by kernel_rfl
theorem all_one : allL (recL bytes1) = ([bytes1], 24, 0) := by kernel_rfl
theorem point_one : pointB 0 = recL [1] := by unfold pointB; rw [putL_small (by decide)]; rfl
theorem next_point : nextL (recL [1]) = ([1], 13, 0) := by kernel_rfl
theorem get_one : getL [1] = (1, 1, 0) := by kernel_rfl
theorem name_one : nameS 1 = ⟨#[109, 97, 110, 46, 49]⟩ := by
  unfold nameS
  rw [Lib.decDigits, dif_pos (by decide)]
  rfl
theorem fileS_three : fileS 3 = ⟨#[102, 105, 108, 101, 46, 51]⟩ := by
  unfold fileS
  rw [Lib.decDigits, dif_pos (by decide)]
  rfl

/-- an empty disk, and the one on which a version has been made to last -/
def emptyP (r : Int) : PD := ⟨r, 0, false, 0, []⟩
def lastP (r : Int) : PD := ⟨r, 37, false, 0, [(nameS 1, recL bytes1, 24), (nowS, recL [1], 13)]⟩
theorem load_empty (r : Int) : loadR (emptyP r) = .inr (0, firstV) := by
  unfold loadR
  rw [if_neg (by simp [emptyP])]
  rfl
theorem load_last (r : Int) : loadR (lastP r) = .inr (1, v1) := by
  have hn : (lastP r).fileB nowS = some (recL [1]) := by
    unfold PD.fileB PD.at? PD.dataAt lastP
    rw [name_one]
    rfl
  have hm : (lastP r).fileB (nameS 1) = some (recL bytes1) := by
    unfold PD.fileB PD.at? PD.dataAt lastP
    rw [name_one]
    rfl
  unfold loadR
  rw [if_neg (by simp [lastP]), hn]
  simp only
  unfold loadB
  rw [next_point]
  simp only
  rw [get_one]
  have hl : (recL [1]).length = 13 := by rw [recL_length]; rfl
  rw [if_neg (by rw [hl]; simp), if_neg (by simp)]
  rw [hm]
  show (if (allL (recL bytes1)).2.2 ≠ 0 ∨ (allL (recL bytes1)).1.length = 0 then Sum.inl 12 else loadV 1 (loadFold firstV (allL (recL bytes1)).1)) = _
  rw [all_one, if_neg (by simp)]
  simp only [loadFold, dec_one, apply_one 1 (.inr rfl)]
  simp [loadV]

theorem at_nil (r u : Int) (f : Int) (s : ByteArray) : (⟨r, u, false, f, []⟩ : PD).at? s = none := rfl
theorem len24 : (recL bytes1).length = 24 := by rw [recL_length]; rfl
theorem len13 : (recL [1]).length = 13 := by rw [recL_length]; rfl
theorem named_now : PD.named nowS = true := by decide
theorem named_soon : PD.named soonS = true := by decide
theorem named_one : PD.named (nameS 1) = true := by rw [name_one]; decide
theorem put_one (r : Int) (h : 37 ≤ r) : putFile (emptyP r) (nameS 1) (recL bytes1) = (⟨r, 24, false, 0, [(nameS 1, recL bytes1, 24)]⟩, 0) := by
  have hs : (emptyP r).sizeR (nameS 1) = (0, 4) := rfl
  have hc : (emptyP r).createR (nameS 1) = (⟨r, 0, false, 0, [(nameS 1, [], 0)]⟩, 0) := by
    unfold PD.createR; rw [if_neg (by rw [named_one]; simp)]; rfl
  have ha : (⟨r, 0, false, 0, [(nameS 1, [], 0)]⟩ : PD).appendR (nameS 1) (recL bytes1) = (⟨r, 24, false, 0, [(nameS 1, recL bytes1, 0)]⟩, 0) := by
    have hat : (⟨r, 0, false, 0, [(nameS 1, [], 0)]⟩ : PD).at? (nameS 1) = some 0 := by unfold PD.at?; simp
    unfold PD.appendR
    rw [hat]
    simp only [PD.dataAt, PD.sureAt, List.getD_cons_zero, List.nil_append, len24]
    rw [if_neg (by simp), if_neg (by omega)]
    simp [PD.stepped]
  have hy : (⟨r, 24, false, 0, [(nameS 1, recL bytes1, 0)]⟩ : PD).syncR (nameS 1) = (⟨r, 24, false, 0, [(nameS 1, recL bytes1, 24)]⟩, 0) := by
    have hat : (⟨r, 24, false, 0, [(nameS 1, recL bytes1, 0)]⟩ : PD).at? (nameS 1) = some 0 := by unfold PD.at?; simp
    unfold PD.syncR
    rw [hat]
    simp only [PD.dataAt, List.getD_cons_zero, len24]
    simp [PD.stepped]
  rw [putFile_eq (q2 := emptyP r) (by rw [hs]; rfl) (by rw [hs]; simp), hc]
  simp only
  rw [if_neg (by simp), ha]
  simp only
  rw [if_neg (by simp), hy]
theorem put_two (r : Int) (h : 37 ≤ r) : putFile ⟨r, 24, false, 0, [(nameS 1, recL bytes1, 24)]⟩ soonS (recL [1]) = (⟨r, 37, false, 0, [(nameS 1, recL bytes1, 24), (soonS, recL [1], 13)]⟩, 0) := by
  have hne : nameS 1 ≠ soonS := nameS_ne 1 115 [111, 111, 110] (by decide)
  have hb : (nameS 1 == soonS) = false := by rw [beq_eq_false_iff_ne]; exact hne
  have hat0 : (⟨r, 24, false, 0, [(nameS 1, recL bytes1, 24)]⟩ : PD).at? soonS = none := by unfold PD.at?; simp [List.findIdx?_cons, hb]
  have hs : (⟨r, 24, false, 0, [(nameS 1, recL bytes1, 24)]⟩ : PD).sizeR soonS = (0, 4) := by unfold PD.sizeR; rw [hat0]; rfl
  have hc : (⟨r, 24, false, 0, [(nameS 1, recL bytes1, 24)]⟩ : PD).createR soonS = (⟨r, 24, false, 0, [(nameS 1, recL bytes1, 24), (soonS, [], 0)]⟩, 0) := by
    unfold PD.createR; rw [if_neg (by rw [named_soon]; simp), hat0]; rfl
  have ha : (⟨r, 24, false, 0, [(nameS 1, recL bytes1, 24), (soonS, [], 0)]⟩ : PD).appendR soonS (recL [1]) = (⟨r, 37, false, 0, [(nameS 1, recL bytes1, 24), (soonS, recL [1], 0)]⟩, 0) := by
    have hat : (⟨r, 24, false, 0, [(nameS 1, recL bytes1, 24), (soonS, [], 0)]⟩ : PD).at? soonS = some 1 := by unfold PD.at?; simp [List.findIdx?_cons, hb]
    unfold PD.appendR
    rw [hat]
    simp only [PD.dataAt, PD.sureAt, List.getD_cons_succ, List.getD_cons_zero, List.nil_append, len13]
    rw [if_neg (by simp), if_neg (by omega)]
    simp [PD.stepped]
  have hy : (⟨r, 37, false, 0, [(nameS 1, recL bytes1, 24), (soonS, recL [1], 0)]⟩ : PD).syncR soonS = (⟨r, 37, false, 0, [(nameS 1, recL bytes1, 24), (soonS, recL [1], 13)]⟩, 0) := by
    have hat : (⟨r, 37, false, 0, [(nameS 1, recL bytes1, 24), (soonS, recL [1], 0)]⟩ : PD).at? soonS = some 1 := by unfold PD.at?; simp [List.findIdx?_cons, hb]
    unfold PD.syncR
    rw [hat]
    simp only [PD.dataAt, List.getD_cons_succ, List.getD_cons_zero, len13]
    simp [PD.stepped]
  rw [putFile_eq (q2 := ⟨r, 24, false, 0, [(nameS 1, recL bytes1, 24)]⟩) (by rw [hs]; rfl) (by rw [hs]; simp), hc]
  simp only
  rw [if_neg (by simp), ha]
  simp only
  rw [if_neg (by simp), hy]
theorem fresh_one (r : Int) (h : 37 ≤ r) : freshR (emptyP r) 0 v1 = (lastP r, 0) := by
  have hne : nameS 1 ≠ soonS := nameS_ne 1 115 [111, 111, 110] (by decide)
  have hb : (nameS 1 == soonS) = false := by rw [beq_eq_false_iff_ne]; exact hne
  have hne2 : nameS 1 ≠ nowS := nameS_ne 1 110 [111, 119] (by decide)
  have hb2 : (nameS 1 == nowS) = false := by rw [beq_eq_false_iff_ne]; exact hne2
  have hb3 : (soonS == nowS) = false := by decide
  have hren : (⟨r, 37, false, 0, [(nameS 1, recL bytes1, 24), (soonS, recL [1], 13)]⟩ : PD).renameR soonS nowS = (lastP r, 0) := by
    have hat : (⟨r, 37, false, 0, [(nameS 1, recL bytes1, 24), (soonS, recL [1], 13)]⟩ : PD).at? soonS = some 1 := by unfold PD.at?; simp [List.findIdx?_cons, hb]
    have hat2 : (⟨r, 37, false, 0, [(nameS 1, recL bytes1, 24), (soonS, recL [1], 13)]⟩ : PD).at? nowS = none := by unfold PD.at?; simp [List.findIdx?_cons, hb2, hb3]
    unfold PD.renameR
    rw [if_neg (by rw [named_now]; simp), hat, hat2]
    simp only [PD.dataAt, PD.sureAt, List.getD_cons_succ, List.getD_cons_zero]
    rw [if_neg (by simp), if_neg (by simp [PD.stepped]), if_neg (by decide)]
    simp [PD.stepped, lastP]
  unfold freshR firstB
  rw [enc_one, point_one, if_neg (by decide), if_neg (by decide), if_neg (by rw [len24, len13]; simp only [emptyP]; omega), put_one r h]
  simp only
  rw [if_neg (by simp), put_two r h]
  simp only
  rw [if_neg (by simp)]
  unfold freshD firstB
  rw [enc_one, point_one, put_one r h]
  simp only
  rw [put_two r h]
  exact hren
theorem fresh_full (r : Int) (h : r < 37) : freshR (emptyP r) 0 v1 = (emptyP r, 11) := by
  unfold freshR firstB
  rw [enc_one, point_one, if_neg (by decide), if_neg (by decide), if_pos (by rw [len24, len13]; simp only [emptyP]; omega)]

/-! A file that is made anew brings no other name. -/
def hasN (p : PD) (t : ByteArray) : Prop := ∃ x ∈ p.files, x.1 = t
theorem at_none {p : PD} {t : ByteArray} : p.at? t = none ↔ ¬ hasN p t := by
  unfold PD.at? hasN
  rw [List.findIdx?_eq_none_iff]
  constructor
  · rintro h ⟨x, hx, e⟩; have := h x hx; simp [e] at this
  · intro h x hx; simp only [beq_eq_false_iff_ne]; exact fun e => h ⟨x, hx, e⟩
theorem stepped_hasN {p : PD} {t : ByteArray} : hasN p.stepped t ↔ hasN p t := by unfold hasN; rw [(PD.stepped_files p).1]
theorem create_hasN {p : PD} {s t : ByteArray} (hst : s ≠ t) (h : ¬ hasN p t) : ¬ hasN (p.createR s).1 t := by
  unfold PD.createR
  split
  · exact h
  · split
    · exact h
    · split
      · exact h
      · split
        · rw [stepped_hasN]; exact h
        · rintro ⟨x, hx, e⟩
          rcases List.mem_append.1 hx with h1 | h1
          · exact h ⟨x, h1, e⟩
          · simp at h1; subst h1; exact hst e
theorem set_hasN {l : List PFile} {j : Nat} {y : PFile} {t : ByteArray} (hy : y.1 ≠ t) (h : ¬ ∃ x ∈ l, x.1 = t) : ¬ ∃ x ∈ l.set j y, x.1 = t := by
  rintro ⟨x, hx, e⟩
  rcases List.mem_or_eq_of_mem_set hx with h1 | h1
  · exact h ⟨x, h1, e⟩
  · subst h1; exact hy e
theorem append_hasN {p : PD} {s t : ByteArray} {b : List UInt8} (hst : s ≠ t) (h : ¬ hasN p t) : ¬ hasN (p.appendR s b).1 t := by
  unfold PD.appendR
  split
  · exact h
  · split
    · exact h
    · split
      · exact h
      · split
        · rw [stepped_hasN]; exact h
        · exact set_hasN hst h
theorem sync_hasN {p : PD} {s t : ByteArray} (hst : s ≠ t) (h : ¬ hasN p t) : ¬ hasN (p.syncR s).1 t := by
  unfold PD.syncR
  split
  · exact h
  · split
    · exact h
    · split
      · rw [stepped_hasN]; exact h
      · exact set_hasN hst h
theorem remove_hasN {p : PD} {s t : ByteArray} (h : ¬ hasN p t) : ¬ hasN (p.removeR s).1 t := by
  unfold PD.removeR
  split
  · exact h
  · split
    · exact h
    · split
      · rw [stepped_hasN]; exact h
      · rintro ⟨x, hx, e⟩
        exact h ⟨x, List.mem_of_mem_eraseIdx hx, e⟩
theorem put_hasN {p : PD} {s t : ByteArray} {b : List UInt8} (hst : s ≠ t) (h : ¬ hasN p t) : ¬ hasN (putFile p s b).1 t := by
  by_cases h1 : (p.sizeR s).2 = 0 ∧ (p.removeR s).2 ≠ 0
  · rw [putFile_rem h1.1 h1.2]; exact remove_hasN h
  · rw [putFile_eq rfl h1]
    have h2 : ¬ hasN (if (p.sizeR s).2 = 0 then (p.removeR s).1 else p) t := by
      split
      · exact remove_hasN h
      · exact h
    generalize (if (p.sizeR s).2 = 0 then (p.removeR s).1 else p) = q2 at h2 ⊢
    split
    · exact create_hasN hst h2
    · split
      · exact append_hasN hst (create_hasN hst h2)
      · exact sync_hasN hst (append_hasN hst (create_hasN hst h2))
theorem freshD_now {p : PD} {n : Nat} {v : VersP} (h : p.at? nowS = none) : (freshD p n v).at? nowS = none := by
  rw [at_none] at h ⊢
  exact put_hasN (by decide) (put_hasN (nameS_ne _ 110 [111, 119] (by decide)) h)
theorem fresh_ren {p : PD} {n : Nat} {v : VersP} {d : Nat} (h : p.at? nowS = none) (W : World) (G : Nat → Prop) (hD : DiskIs W d G (freshD p n v)) :
    Calls Tryd.prog 56 #[.pointer (some ⟨d, 0, none⟩), .string soonS, .string nowS] W fun e W' => e = .returned (.int .i64 ((freshD p n v).renameR soonS nowS).2) ∧ Stp G d W W' ((freshD p n v).renameR soonS nowS).1 :=
  rename_new hD soonS nowS (by decide) (freshD_now h)

end Go.Proofs.YtebkmpgmcldeoaaDoor

/- The law's head: the document's example. -/
namespace Go.Proofs.YtebkmpgmcldeoaaDoor
open Go Go.Proofs Go.RowKit Go.Sort
set_option linter.unusedVariables false

theorem ManAt.below {w w' : World} {mb d : Nat} {n : Int} {fv : Value} {v : VersP} {op : Bool} (h : ManAt w mb d n fv v op) (hB : RowKit.Below w.heap.size w w') : ManAt w' mb d n fv v op :=
  ⟨(hB.block mb (lt_of_heap h.head)).trans h.head, h.rds.keep fun k hk => hB.block k (h.lt k hk).1, fun k hk => ⟨Nat.lt_of_lt_of_le (h.lt k hk).1 hB.size, (h.lt k hk).2⟩⟩
theorem rds_one {w : World} {a : Nat} (ha : w.heap[a]? = some (.cells #[.int .i64 1, .int .i64 0, .string ⟨#[97]⟩, .string ⟨#[98]⟩, .int .i64 5] 42 (0, 0))) : Own w 42 5 (.slice (some ⟨a, 0, none⟩) 1 1) 1 (metaV [meta1]) :=
  ⟨rfl, .inr ⟨a, 1, _, rfl, ha, Nat.le_refl _, by unfold maxLen; omega, by simp, rfl⟩⟩

theorem do_one (w : World) (hG : Globs w) {d mb : Nat} {F : Nat → Prop} {r : Int} {fv : Value} (hD : DK w d F (emptyP r)) (hF0 : ¬ F 0) (hF1 : ¬ F 1) (hmF : ¬ F mb) (hM : ManAt w mb d 0 fv firstV false) (hfF : ∀ k, fv.ownBlock = some k → ¬ F k)
    {a : Nat} (ha : w.heap[a]? = some (.cells #[.int .i64 1, .int .i64 0, .string ⟨#[97]⟩, .string ⟨#[98]⟩, .int .i64 5] 42 (0, 0))) :
    Calls Tryd.prog 13 #[.pointer (some ⟨mb, 0, none⟩), .agg #[.slice (some ⟨a, 0, none⟩) 1 1, .slice none 0 0, .int .i64 0, .int .i64 2, .int .u64 0]] w (DoOut w d mb F 0 fv firstV v1 (freshR (emptyP r) 0 v1)) := by
  have h := do_calls w hG (n := 0) (x := edit1 0) (v0 := firstV) (av := .slice (some ⟨a, 0, none⟩) 1 1) (dv := .slice none 0 0) hD hF0 hF1 hmF hM firstV_fit hfF (rds_one ha).rds (Own.nil w 3 1).rds (rds_one ha).lt (fun k hk => by cases hk)
    (fun m hm => by simp [edit1] at hm; subst hm; exact meta1_bound) (by simp [edit1]) (by simp [edit1]) (by omega) (fun W G hW => fresh_ren (by rfl) W G hW)
  rw [apply_one 0 (.inl rfl)] at h
  have e : doR (emptyP r) 0 firstV (edit1 0) = freshR (emptyP r) 0 v1 := by
    unfold doR
    rw [apply_one 0 (.inl rfl)]
    simp [emptyP]
  rw [e] at h
  exact h

theorem version_first (w : World) {mb d : Nat} {n : Int} {fv : Value} {op : Bool} (h : ManAt w mb d n fv firstV op) :
    Calls Tryd.prog 11 #[.pointer (some ⟨mb, 0, none⟩)] w fun e w' => ∃ v', e = .returned (.agg #[v', .int .i64 1, .int .i64 1, .int .u64 0]) ∧ Own w' 42 5 v' 0 [] ∧ RowKit.Below w.heap.size w w' ∧ ∀ k, v'.ownBlock = some k → w.heap.size ≤ k :=
  version_calls w h (by simp [firstV])
theorem version_v1 (w : World) {mb d : Nat} {n : Int} {fv : Value} {op : Bool} (h : ManAt w mb d n fv v1 op) :
    Calls Tryd.prog 11 #[.pointer (some ⟨mb, 0, none⟩)] w fun e w' => ∃ v', e = .returned (.agg #[v', .int .i64 1, .int .i64 2, .int .u64 0]) ∧ Own w' 42 5 v' 1 (metaV [meta1]) ∧ RowKit.Below w.heap.size w w' ∧ ∀ k, v'.ownBlock = some k → w.heap.size ≤ k :=
  version_calls w h (by simp [v1])
/-- a list of edits of a new disk, and what it leaves when it is loaded -/
theorem new_empty (r : Int) (h0 : 0 ≤ r) (h1 : r ≤ 67108864) : PD.new r = emptyP r := by
  unfold PD.new emptyP
  have : max 0 (min r 67108864) = r := by omega
  rw [this]

set_option maxRecDepth 100000 in
theorem field_next (A : Option Addr) (n c : Nat) (lg nx sq : Int) (W : World) : Sem.run Tryd.prog (Instr.field 37 (.agg #[.slice A n c, .int .i64 lg, .int .i64 nx, .int .u64 sq]) 2) W = .ok (.int .i64 nx) W := by kernel_rfl
set_option maxRecDepth 100000 in
theorem field_files (A : Option Addr) (n c : Nat) (lg nx sq : Int) (W : World) : Sem.run Tryd.prog (Instr.field 37 (.agg #[.slice A n c, .int .i64 lg, .int .i64 nx, .int .u64 sq]) 0) W = .ok (.slice A n c) W := by kernel_rfl

set_option maxHeartbeats 4000000 in
set_option maxRecDepth 100000 in
theorem head_calls (w : World) (hG : Globs w) : Calls Tryd.prog 4 #[] w fun e w' => e = .returned (.bool true) ∧ RowKit.Below w.heap.size w w' := by
  have HG := Lib.hid hG
  have hnw := new_calls w 1000
  rw [new_empty 1000 (by omega) (by omega)] at hnw
  have hgl := hG.lt
  clear hG
  go_enter Tryd.func4, Tryd.ntmps4
  go_wp2_with fail
  refine hnw.mono ?_
  rintro e w1 ⟨d, rfl, g1, g2⟩
  have HD1 := Lib.hid (show DK w1 d (fun k => w.heap.size ≤ k ∧ k < w1.heap.size) (emptyP 1000) from ⟨g1, fun k hk => hk.2⟩)
  have HB1 := Lib.hid g2
  clear g1 g2 hnw
  have hld := load_calls (HG.out.below HB1.out) HD1.out.is
  rw [load_empty] at hld
  go_wp2_with fail
  refine hld.mono ?_
  rintro e w2 ⟨g1, mb, fv, rfl, g2, g3, g4⟩
  have HB2 := Lib.hid (HB1.out.trans (g1.mono HB1.out.size))
  have HD2 := Lib.hid (HD1.out.below g1)
  have HM2 := Lib.hid g2
  have HMB := Lib.hid g3
  have HFV := Lib.hid g4
  clear g1 g2 g3 g4 hld
  go_wp2_with fail
  refine (number_calls w2 HM2.out).mono ?_
  rintro e w' ⟨rfl, rfl⟩
  go_wp2_with fail
  refine (version_first w2 HM2.out).mono ?_
  rintro e w3 ⟨x1, rfl, g1, g2, g3⟩
  have HB3 := Lib.hid (HB2.out.trans (g2.mono HB2.out.size))
  have HD3 := Lib.hid (HD2.out.below g2)
  have HM3 := Lib.hid (HM2.out.below g2)
  obtain ⟨-, A1, c1, hx1, -⟩ := id g1.rds
  subst hx1
  clear g1 g2 g3
  have hfn := field_next A1 0 c1 1 1 0
  go_wp2_with fail
  refine (lmeta_calls w3 1).mono ?_
  rintro e w4 ⟨rfl, g1⟩
  clear hfn
  obtain ⟨W5, hW5⟩ : ∃ x, x = w4.alloc (.cells #[.int .i64 1, .int .i64 0, .string ⟨#[97]⟩, .string ⟨#[98]⟩, .int .i64 5] 42) := ⟨_, rfl⟩
  have hB35 : RowKit.Below w3.heap.size w3 W5 := by rw [hW5]; exact g1.alloc g1.size _
  have HA5 := Lib.hid (show W5.heap[w4.heap.size]? = some (.cells #[.int .i64 1, .int .i64 0, .string ⟨#[97]⟩, .string ⟨#[98]⟩, .int .i64 5] 42 (0, 0)) by rw [hW5]; exact heap_alloc_new w4 _)
  have HB5 := Lib.hid (HB3.out.trans (hB35.mono HB3.out.size))
  have HD5 := Lib.hid (HD3.out.below hB35)
  have HM5 := Lib.hid (HM3.out.below hB35)
  have HW5 := Lib.hid hW5.symm
  clear g1 hW5 hB35
  have hdo := do_one W5 (HG.out.below HB5.out) HD5.out (fun h => by have := hgl.1; omega) (fun h => by have := hgl.2; omega) (fun h => by have := HMB.out; omega) HM5.out (fun k hk h => by have := HFV.out k hk; omega) HA5.out
  rw [fresh_one 1000 (by omega)] at hdo
  go_wp2_with fail
  rw [HW5.out]
  refine hdo.mono ?_
  rintro e w6 ⟨rfl, G, k1, k2, k3, -, k5⟩
  obtain ⟨fv6, k6, k7⟩ := k5 rfl
  have HB6 := Lib.hid (HB5.out.trans (show RowKit.Below w.heap.size W5 w6 from k2.below (fun k hk => hk.elim (fun h => h.1) (fun h => by have := HMB.out; have := HB1.out.size; omega)) HB5.out.size))
  have HD6 := Lib.hid k1
  have HM6 := Lib.hid (show ManAt w6 mb d 1 fv6 v1 true from k6)
  clear k1 k2 k3 k5 k6 k7 hdo
  have hld := load_calls (HG.out.below HB6.out) HD6.out.is
  simp only at hld
  rw [load_last] at hld
  go_wp2_with fail
  refine hld.mono ?_
  rintro e w7 ⟨g1, mb7, fv7, rfl, g2, g3, g4⟩
  have HB7 := Lib.hid (HB6.out.trans (g1.mono HB6.out.size))
  have HM7 := Lib.hid (HM6.out.below g1)
  have HX7 := Lib.hid (show ManAt w7 mb7 d 1 fv7 v1 false from g2)
  clear g1 g2 g3 g4 hld
  go_wp2_with fail
  refine (number_calls w7 HM7.out).mono ?_
  rintro e w' ⟨rfl, rfl⟩
  go_wp2_with fail
  refine (number_calls w7 HX7.out).mono ?_
  rintro e w' ⟨rfl, rfl⟩
  go_wp2_with fail
  refine (version_v1 w7 HX7.out).mono ?_
  rintro e w8 ⟨x8, rfl, g1, g2, g3⟩
  obtain ⟨-, A8, c8, hx8, -⟩ := id g1.rds
  subst hx8
  have HB8 := Lib.hid (HB7.out.trans (g2.mono HB7.out.size))
  clear g1 g2 g3
  have hff := field_files A8 1 c8 1 2 0
  have hfl := fileName_calls w8 (HG.out.below HB8.out) 3 (by omega)
  rw [fileS_three] at hfl
  go_wp2_with fail
  refine hfl.mono ?_
  rintro e w9 ⟨rfl, g1⟩
  have HB9 := Lib.hid (HB8.out.trans (g1.mono HB8.out.size))
  clear g1 hff hfl
  go_wp2_with fail
  go_ret
  exact ⟨rfl, HB9.out⟩

end Go.Proofs.YtebkmpgmcldeoaaDoor

namespace Go.Proofs.YtebkmpgmcldeoaaDoor
open Go Go.Proofs Go.RowKit Go.Sort
set_option linter.unusedVariables false

theorem i64_and3 (n : Int) : bits .and .i64 n 3 = n % 4 := by
  have h127 : (BitVec.ofInt 64 3).toNat = 2 ^ 2 - 1 := by decide
  have key : (BitVec.ofInt 64 n &&& BitVec.ofInt 64 3).toNat = (n % ((2 ^ 64 : Nat) : Int)).toNat % 2 ^ 2 := by
    rw [BitVec.toNat_and, BitVec.toNat_ofInt, h127, Nat.and_two_pow_sub_one_eq_mod]
  show IntKind.i64.wrap ((BitVec.ofInt 64 n &&& BitVec.ofInt 64 3).toNat : Nat) = n % 4
  rw [key, IntKind.wrap_i64]
  omega
theorem i64_and63 (n : Int) : bits .and .i64 n 63 = n % 64 := by
  have h127 : (BitVec.ofInt 64 63).toNat = 2 ^ 6 - 1 := by decide
  have key : (BitVec.ofInt 64 n &&& BitVec.ofInt 64 63).toNat = (n % ((2 ^ 64 : Nat) : Int)).toNat % 2 ^ 6 := by
    rw [BitVec.toNat_and, BitVec.toNat_ofInt, h127, Nat.and_two_pow_sub_one_eq_mod]
  show IntKind.i64.wrap ((BitVec.ofInt 64 n &&& BitVec.ofInt 64 63).toNat : Nat) = n % 64
  rw [key, IntKind.wrap_i64]
  omega

/-! The disk on which whatever bytes stand. -/
theorem now_ne (k : Nat) : nowS ≠ nameS k := fun h => nameS_ne k 110 [111, 119] (by decide) h.symm
theorem named_k (k : Nat) (h1 : 1 ≤ k) (h2 : k ≤ 4) : PD.named (nameS k) = true := by
  have e : nameS k = ⟨#[109, 97, 110, 46, UInt8.ofNat (48 + k)]⟩ := by
    unfold nameS
    rw [Lib.decDigits, dif_pos (by omega)]
    rfl
  rw [e]
  rcases (by omega : k = 1 ∨ k = 2 ∨ k = 3 ∨ k = 4) with rfl | rfl | rfl | rfl <;> decide
def nowP (now : List UInt8) : PD := ⟨1048576, now.length, false, 0, [(nowS, now, 0)]⟩
def badP (now list : List UInt8) (k : Nat) : PD := ⟨1048576, (now.length : Int) + list.length, false, 0, [(nowS, now, 0), (nameS k, list, 0)]⟩
theorem bad1 : (emptyP 1048576).createR nowS = (nowP [], 0) := by
  unfold PD.createR; rw [if_neg (by rw [named_now]; simp)]; rfl
theorem bad2 (now : List UInt8) (h : now.length ≤ 200) : (nowP []).appendR nowS now = (nowP now, 0) := by
  have hat : (nowP []).at? nowS = some 0 := by unfold PD.at? nowP; simp
  unfold PD.appendR
  rw [hat]
  simp only [nowP, PD.dataAt, PD.sureAt, List.getD_cons_zero, List.nil_append]
  rw [if_neg (by simp), if_neg (by simp; omega)]
  simp [PD.stepped]
theorem bad3 (now : List UInt8) (k : Nat) (h1 : 1 ≤ k) (h2 : k ≤ 4) : (nowP now).createR (nameS k) = (badP now [] k, 0) := by
  have hb : (nowS == nameS k) = false := by rw [beq_eq_false_iff_ne]; exact now_ne k
  have hat : (nowP now).at? (nameS k) = none := by unfold PD.at? nowP; simp [List.findIdx?_cons, hb]
  unfold PD.createR
  rw [if_neg (by rw [named_k k h1 h2]; simp), hat]
  simp [nowP, badP, PD.stepped]
theorem bad4 (now list : List UInt8) (k : Nat) (h : now.length ≤ 200) (h2 : list.length ≤ 500) : (badP now [] k).appendR (nameS k) list = (badP now list k, 0) := by
  have hb : (nowS == nameS k) = false := by rw [beq_eq_false_iff_ne]; exact now_ne k
  have hat : (badP now [] k).at? (nameS k) = some 1 := by unfold PD.at? badP; simp [List.findIdx?_cons, hb]
  unfold PD.appendR
  rw [hat]
  simp only [badP, PD.dataAt, PD.sureAt, List.getD_cons_succ, List.getD_cons_zero, List.nil_append, List.length_nil]
  rw [if_neg (by simp), if_neg (by simp; omega)]
  simp [PD.stepped]
theorem bad_now (now list : List UInt8) (k : Nat) : (badP now list k).fileB nowS = some now := by
  have hat : (badP now list k).at? nowS = some 0 := by unfold PD.at? badP; simp [List.findIdx?_cons]
  unfold PD.fileB; rw [hat]; rfl

/-- whatever is loaded where there is a list is right -/
def LoadGood (r : Int ⊕ (Nat × VersP)) : Prop := r = .inl 12 ∨ ∃ n v, r = .inr (n, v) ∧ 1 ≤ n ∧ n ≤ 1073741824 ∧ checkR v = 0
theorem loadFold_ok (ds : List (List UInt8)) : ∀ (v0 v : VersP), (ds = [] → checkR v0 = 0) → loadFold v0 ds = some v → checkR v = 0 := by
  induction ds with
  | nil => intro v0 v h e; simp only [loadFold, Option.some.injEq] at e; rw [← e]; exact h rfl
  | cons x ds ih =>
    intro v0 v h e
    rw [loadFold] at e
    generalize decodeR x = q at e
    by_cases h1 : q.2 ≠ 0
    · rw [if_pos h1] at e; cases e
    · rw [if_neg h1] at e
      have h2 := applyR_fit (v := v0) (e := q.1)
      generalize applyR v0 q.1 = z at e h2
      by_cases h3 : z.2 ≠ 0
      · rw [if_pos h3] at e; cases e
      · rw [if_neg h3] at e
        exact ih z.1 v (fun _ => (h2 (by simpa using h3)).1) e
theorem loadV_good (n : Nat) (h1 : 1 ≤ n) (h2 : n ≤ 1073741824) (ds : List (List UInt8)) (hd : ds.length ≠ 0) : LoadGood (loadV n (loadFold firstV ds)) := by
  cases h : loadFold firstV ds with
  | none => exact .inl rfl
  | some v => exact .inr ⟨n, v, rfl, h1, h2, loadFold_ok ds firstV v (fun e => absurd (by rw [e]; rfl) hd) h⟩
theorem loadC_good (n : Nat) (h1 : 1 ≤ n) (h2 : n ≤ 1073741824) (c : Option (List UInt8)) : LoadGood (loadC n c) := by
  cases c with
  | none => exact .inl rfl
  | some c =>
    show LoadGood (if (allL c).2.2 ≠ 0 ∨ (allL c).1.length = 0 then .inl 12 else loadV n (loadFold firstV (allL c).1))
    by_cases h : (allL c).2.2 ≠ 0 ∨ (allL c).1.length = 0
    · rw [if_pos h]; exact .inl rfl
    · rw [if_neg h]; exact loadV_good n h1 h2 _ (fun e => h (.inr e))
theorem loadB_good (p : PD) (b : List UInt8) : LoadGood (loadB p b) := by
  unfold loadB
  split
  · exact .inl rfl
  · split
    · exact .inl rfl
    · rename_i h
      exact loadC_good _ (by omega) (by omega) _
theorem bad_load (now list : List UInt8) (k : Nat) : LoadGood (loadR (badP now list k)) := by
  unfold loadR
  rw [if_neg (by simp [badP]), bad_now]
  exact loadB_good _ _

set_option maxHeartbeats 4000000 in
set_option maxRecDepth 100000 in
theorem editBad_walk (w : World) (hG : Globs w) {x0 x1 : Value} {now list : List UInt8} (h0 : RdB w x0 now) (h1 : RdB w x1 list) (hx0 : ∀ k, x0.ownBlock = some k → k < w.heap.size) (hx1 : ∀ k, x1.ownBlock = some k → k < w.heap.size)
    (hl0 : now.length ≤ 9223372036854775807) (hl1 : list.length ≤ 9223372036854775807) (n room : Int) :
    Calls Tryd.prog 3 #[x0, x1, .int .i64 n, .int .i64 room] w fun e w' => e = .returned (.bool true) ∧ RowKit.Below w.heap.size w w' := by
  obtain ⟨-, A0, c0, hxe0, -⟩ := id h0
  subst hxe0
  obtain ⟨-, A1, c1, hxe1, -⟩ := id h1
  subst hxe1
  have HG := Lib.hid hG
  have HR0 := Lib.hid h0
  have HR1 := Lib.hid h1
  have HX0 := Lib.hid hx0
  have HX1 := Lib.hid hx1
  have hgl := hG.lt
  have hhd := head_calls w hG
  clear hG h0 h1 hx0 hx1
  by_cases hbig : now.length > 200 ∨ list.length > 500
  · by_cases hb1 : now.length > 200
    · have hz : (200 : Int) < (now.length : Int) := by omega
      clear hbig hb1
      go_enter Tryd.func3, Tryd.ntmps3
      go_wp2_with fail
      refine hhd.mono ?_
      rintro e w1 ⟨rfl, g1⟩
      have HB1 := Lib.hid g1
      clear g1 hhd
      go_wp2_with fail
      go_ret
      exact ⟨rfl, HB1.out⟩
    · have hz : ¬ (200 : Int) < (now.length : Int) := by omega
      have hz2 : (500 : Int) < (list.length : Int) := by omega
      clear hbig hb1
      go_enter Tryd.func3, Tryd.ntmps3
      go_wp2_with fail
      refine hhd.mono ?_
      rintro e w1 ⟨rfl, g1⟩
      have HB1 := Lib.hid g1
      clear g1 hhd
      go_wp2_with fail
      go_ret
      exact ⟨rfl, HB1.out⟩
  · have hq0 : now.length ≤ 200 := by omega
    have hq1 : list.length ≤ 500 := by omega
    have hz : ¬ (200 : Int) < (now.length : Int) := by omega
    have hz2 : ¬ (500 : Int) < (list.length : Int) := by omega
    have ha3 := i64_and3 n
    obtain ⟨k, hk⟩ : ∃ k : Nat, n % 4 = (k : Int) := ⟨(n % 4).toNat, by omega⟩
    rw [hk] at ha3
    have hk4 : k < 4 := by omega
    clear hbig hl0 hl1 hk
    go_enter Tryd.func3, Tryd.ntmps3
    go_wp2_with fail
    refine hhd.mono ?_
    rintro e wa ⟨rfl, g1⟩
    have HBa := Lib.hid g1
    clear g1 hhd
    have hnw := new_calls wa 1048576
    rw [new_empty 1048576 (by omega) (by omega)] at hnw
    go_wp2_with fail
    refine hnw.mono ?_
    rintro e w1 ⟨d, rfl, g1, g2⟩
    obtain ⟨F, hFe⟩ : ∃ F : Nat → Prop, F = fun k => wa.heap.size ≤ k ∧ k < w1.heap.size := ⟨_, rfl⟩
    rw [← hFe] at g1
    have hFw : ∀ b, F b → wa.heap.size ≤ b ∧ b < w1.heap.size := fun b hb => by rw [hFe] at hb; exact hb
    have HFI1 := Lib.hid (FI.refl (⟨g1, fun b hb => (hFw b hb).2⟩ : DK w1 d F (emptyP 1048576)))
    have HB1 := Lib.hid (HBa.out.trans (g2.mono HBa.out.size))
    have HFW := Lib.hid (show ∀ b, F b → w.heap.size ≤ b from fun b hb => Nat.le_trans HBa.out.size (hFw b hb).1)
    have HR01 := Lib.hid (HR0.out.keep (w' := w1) fun b hb => HB1.out.block b (HX0.out b hb))
    have HR11 := Lib.hid (HR1.out.keep (w' := w1) fun b hb => HB1.out.block b (HX1.out b hb))
    have h1s : w.heap.size ≤ w1.heap.size := HB1.out.size
    clear g1 g2 hnw hFe hFw
    have hcr := create_calls HFI1.out.dk.is nowS (by decide)
    rw [bad1] at hcr
    go_wp2_with fail
    refine hcr.mono ?_
    rintro e w2 ⟨rfl, hS⟩
    obtain ⟨G2, g2⟩ := HFI1.out.step hS
    have HFI2 := Lib.hid g2
    clear hS g2 hcr
    have hap := append_calls HFI2.out.dk.is nowS (x := .slice A0 now.length c0) (b := now) (HR01.out.keep fun b hb => HFI2.out.block (by have := HX0.out b hb; omega) (fun h => by have := HX0.out b hb; have := HFW.out b h; omega))
      (fun b hb => ⟨Nat.lt_of_lt_of_le (by have := HX0.out b hb; omega) HFI2.out.keep.size, HFI2.out.apart b (by have := HX0.out b hb; omega) (fun h => by have := HX0.out b hb; have := HFW.out b h; omega)⟩) (by omega)
    (try simp only at hap)
    rw [bad2 now hq0] at hap
    go_wp2_with fail
    refine hap.mono ?_
    rintro e w3 ⟨rfl, hS⟩
    obtain ⟨G3, g3⟩ := HFI2.out.step hS
    have HFI3 := Lib.hid g3
    clear hS g3 hap
    have HBF := Lib.hid (show ∀ (W : World) (G : Nat → Prop) (q : PD), FI w1 W d F G q → RowKit.Below w.heap.size w W from fun W G q h => HB1.out.trans (h.keep.below (fun b hb => HFW.out b hb) h1s))
    have hnm := name_calls w3 (HG.out.below (HBF.out _ _ _ HFI3.out)) (1 + k) (by omega)
    have HCA := Lib.hid (show (1 : Int) + (k : Int) = ((1 + k : Nat) : Int) by omega)
    rw [← HCA.out] at hnm
    go_wp2_with fail
    refine hnm.mono ?_
    rintro e w4 ⟨rfl, g1⟩
    have HFI4 := Lib.hid (HFI3.out.below g1)
    clear g1 hnm
    have hnsz : (nameS (1 + k)).size ≤ maxLen := Nat.le_trans (nameS_size (1 + k) (by omega)) (by unfold maxLen; omega)
    have hcr := create_calls HFI4.out.dk.is (nameS (1 + k)) hnsz
    rw [bad3 now (1 + k) (by omega) (by omega)] at hcr
    clear hnsz
    go_wp2_with fail
    refine hcr.mono ?_
    rintro e w5 ⟨rfl, hS⟩
    obtain ⟨G5, g5⟩ := HFI4.out.step hS
    have HFI5 := Lib.hid g5
    clear hS g5 hcr
    have hnm := name_calls w5 (HG.out.below (HBF.out _ _ _ HFI5.out)) (1 + k) (by omega)
    rw [← HCA.out] at hnm
    go_wp2_with fail
    refine hnm.mono ?_
    rintro e w6 ⟨rfl, g1⟩
    have HFI6 := Lib.hid (HFI5.out.below g1)
    clear g1 hnm
    have hap := append_calls HFI6.out.dk.is (nameS (1 + k)) (x := .slice A1 list.length c1) (b := list) (HR11.out.keep fun b hb => HFI6.out.block (by have := HX1.out b hb; omega) (fun h => by have := HX1.out b hb; have := HFW.out b h; omega))
      (fun b hb => ⟨Nat.lt_of_lt_of_le (by have := HX1.out b hb; omega) HFI6.out.keep.size, HFI6.out.apart b (by have := HX1.out b hb; omega) (fun h => by have := HX1.out b hb; have := HFW.out b h; omega)⟩) (by omega)
    (try simp only at hap)
    rw [bad4 now list (1 + k) hq0 hq1] at hap
    go_wp2_with fail
    refine hap.mono ?_
    rintro e w7 ⟨rfl, hS⟩
    obtain ⟨G7, g7⟩ := HFI6.out.step hS
    have HD7 := Lib.hid g7.dk
    have HB7 := Lib.hid (HBF.out _ _ _ g7)
    clear hS g7 hap HFI1 HFI2 HFI3 HFI4 HFI5 HFI6 HBF HR01 HR11
    have hld := load_calls (HG.out.below HB7.out) HD7.out.is
    have HGD := Lib.hid (bad_load now list (1 + k))
    generalize loadR (badP now list (1 + k)) = L at hld HGD
    clear ha3
    go_wp2_with fail
    refine hld.mono ?_
    rintro e w8 ⟨g1, g2⟩
    have HB8 := Lib.hid (HB7.out.trans (g1.mono HB7.out.size))
    clear g1 hld
    rcases HGD.out with hL | ⟨n', v, hL, hn1, hn2, hck⟩
    · rw [hL] at g2
      simp only at g2
      subst g2
      go_upto_region 12 with fail
      have HB9 := HB8
      obtain ⟨wz, hwz⟩ : ∃ x, x = w8 := ⟨_, rfl⟩
      subst hwz
      have ha63 := i64_and63 room
      obtain ⟨r, hr⟩ : ∃ r : Nat, room % 64 = (r : Int) := ⟨(room % 64).toNat, by omega⟩
      rw [hr] at ha63
      have hr64 : r < 64 := by omega
      have hnw := new_calls wz (r : Int)
      rw [new_empty (r : Int) (by omega) (by omega)] at hnw
      clear hr
      go_wp2_with fail
      refine hnw.mono ?_
      rintro e y1 ⟨d2, rfl, g1, g2⟩
      have HD1 := Lib.hid (show DK y1 d2 (fun b => wz.heap.size ≤ b ∧ b < y1.heap.size) (emptyP r) from ⟨g1, fun b hb => hb.2⟩)
      have HY1 := Lib.hid (HB9.out.trans (g2.mono HB9.out.size))
      have HYS := Lib.hid (show w.heap.size ≤ wz.heap.size ∧ wz.heap.size ≤ y1.heap.size from ⟨HB9.out.size, g2.size⟩)
      clear g1 g2 hnw ha63
      have hld := load_calls (HG.out.below HY1.out) HD1.out.is
      rw [load_empty] at hld
      go_wp2_with fail
      refine hld.mono ?_
      rintro e y2 ⟨g1, mb2, fv2, rfl, g2, g3, g4⟩
      have HY2 := Lib.hid (HY1.out.trans (g1.mono HY1.out.size))
      have HD2 := Lib.hid (HD1.out.below g1)
      have HM2 := Lib.hid g2
      have HMB := Lib.hid g3
      have HFV := Lib.hid g4
      clear g1 g2 g3 g4 hld
      go_wp2_with fail
      refine (lmeta_calls y2 1).mono ?_
      rintro e y4 ⟨rfl, g1⟩
      obtain ⟨Y5, hY5⟩ : ∃ x, x = y4.alloc (.cells #[.int .i64 1, .int .i64 0, .string ⟨#[97]⟩, .string ⟨#[98]⟩, .int .i64 5] 42) := ⟨_, rfl⟩
      have hB35 : RowKit.Below y2.heap.size y2 Y5 := by rw [hY5]; exact g1.alloc g1.size _
      have HA5 := Lib.hid (show Y5.heap[y4.heap.size]? = some (.cells #[.int .i64 1, .int .i64 0, .string ⟨#[97]⟩, .string ⟨#[98]⟩, .int .i64 5] 42 (0, 0)) by rw [hY5]; exact heap_alloc_new y4 _)
      have HY5 := Lib.hid (HY2.out.trans (hB35.mono HY2.out.size))
      have HD5 := Lib.hid (HD2.out.below hB35)
      have HM5 := Lib.hid (HM2.out.below hB35)
      have HW5 := Lib.hid hY5.symm
      clear g1 hY5 hB35
      have hdo := do_one Y5 (HG.out.below HY5.out) HD5.out (fun h => by have := hgl.1; have := HYS.out.1; omega) (fun h => by have := hgl.2; have := HYS.out.1; omega) (fun h => by have := HMB.out; omega) HM5.out (fun b hb h => by have := HFV.out b hb; omega) HA5.out
      by_cases hr37 : r < 37
      · rw [fresh_full (r : Int) (by omega)] at hdo
        clear hr37
        go_wp2_with fail
        rw [HW5.out]
        refine hdo.mono ?_
        rintro e y6 ⟨rfl, G6, k1, k2, k3, k4, -⟩
        have HY6 := Lib.hid (HY5.out.trans (show RowKit.Below w.heap.size Y5 y6 from k2.below (fun b hb => hb.elim (fun h => by have := HYS.out.1; omega) (fun h => by have := HMB.out; have := HYS.out; omega)) HY5.out.size))
        have HD6 := Lib.hid k1
        clear k1 k2 k3 k4 hdo
        have hld := load_calls (HG.out.below HY6.out) HD6.out.is
        (try simp only at hld)
        rw [load_empty] at hld
        go_wp2_with fail
        refine hld.mono ?_
        rintro e y7 ⟨g1, mb7, fv7, rfl, g2, g3, g4⟩
        have HY7 := Lib.hid (HY6.out.trans (g1.mono HY6.out.size))
        have HM7 := Lib.hid g2
        clear g1 g2 g3 g4 hld
        go_wp2_with fail
        refine (version_first y7 HM7.out).mono ?_
        rintro e y8 ⟨x8, rfl, g1, g2, g3⟩
        obtain ⟨-, A8, c8, hx8, -⟩ := id g1.rds
        subst hx8
        have HY8 := Lib.hid (HY7.out.trans (g2.mono HY7.out.size))
        clear g1 g2 g3
        go_wp2_with fail
        refine (first_calls y8).mono ?_
        rintro e y9 ⟨rfl, g1⟩
        have HY9 := Lib.hid (HY8.out.trans (g1.mono HY8.out.size))
        clear g1
        go_wp2_with fail
        refine (same_empty y9 A8 none c8 0 1 1 0).mono ?_
        rintro e y10 ⟨rfl, g1⟩
        have HBE := Lib.hid (HY9.out.trans (g1.mono HY9.out.size))
        have hnd1 := trivial
        clear g1
        clear hnd1
        have hnd := field_next none 0 0 0 0 0
        go_wp2_with fail
        refine (load_nil _).mono ?_
        rintro e w' ⟨rfl, rfl⟩
        go_wp2_with fail
        refine (do_nil _ (.bool true) (.bool true) 0 0 0).mono ?_
        rintro e wq1 ⟨rfl, g1⟩
        have HQ1 := Lib.hid (HBE.out.trans (g1.mono HBE.out.size))
        clear g1
        go_wp2_with fail
        refine (number_nil _).mono ?_
        rintro e w' ⟨rfl, rfl⟩
        go_wp2_with fail
        refine (named_nil _).mono ?_
        rintro e w' ⟨rfl, rfl⟩
        go_wp2_with fail
        refine (version_nil _).mono ?_
        rintro e wq2 ⟨rfl, g1⟩
        have HQ2 := Lib.hid (HQ1.out.trans (g1.mono HQ1.out.size))
        clear g1
        go_wp2_with fail
        go_ret
        exact ⟨rfl, HQ2.out⟩
      · rw [fresh_one (r : Int) (by omega)] at hdo
        clear hr37
        go_wp2_with fail
        rw [HW5.out]
        refine hdo.mono ?_
        rintro e y6 ⟨rfl, G6, k1, k2, k3, -, k5⟩
        have HY6 := Lib.hid (HY5.out.trans (show RowKit.Below w.heap.size Y5 y6 from k2.below (fun b hb => hb.elim (fun h => by have := HYS.out.1; omega) (fun h => by have := HMB.out; have := HYS.out; omega)) HY5.out.size))
        have HD6 := Lib.hid k1
        clear k1 k2 k3 k5 hdo
        have hld := load_calls (HG.out.below HY6.out) HD6.out.is
        (try simp only at hld)
        rw [load_last] at hld
        go_wp2_with fail
        refine hld.mono ?_
        rintro e y7 ⟨g1, mb7, fv7, rfl, g2, g3, g4⟩
        have HBE := Lib.hid (HY6.out.trans (g1.mono HY6.out.size))
        have hnd1 := trivial
        clear g1 g2 g3 g4 hld
        clear hnd1
        have hnd := field_next none 0 0 0 0 0
        go_wp2_with fail
        refine (load_nil _).mono ?_
        rintro e w' ⟨rfl, rfl⟩
        go_wp2_with fail
        refine (do_nil _ (.bool true) (.bool true) 0 0 0).mono ?_
        rintro e wq1 ⟨rfl, g1⟩
        have HQ1 := Lib.hid (HBE.out.trans (g1.mono HBE.out.size))
        clear g1
        go_wp2_with fail
        refine (number_nil _).mono ?_
        rintro e w' ⟨rfl, rfl⟩
        go_wp2_with fail
        refine (named_nil _).mono ?_
        rintro e w' ⟨rfl, rfl⟩
        go_wp2_with fail
        refine (version_nil _).mono ?_
        rintro e wq2 ⟨rfl, g1⟩
        have HQ2 := Lib.hid (HQ1.out.trans (g1.mono HQ1.out.size))
        clear g1
        go_wp2_with fail
        go_ret
        exact ⟨rfl, HQ2.out⟩
    · rw [hL] at g2
      simp only at g2
      obtain ⟨mb, fv, rfl, g3, g4, g5⟩ := g2
      obtain ⟨fl, lg, nx, sq⟩ := v
      have HM8 := Lib.hid g3
      have HCK := Lib.hid hck
      have hn3 : ¬ (n' : Int) < 1 := by omega
      have hvc := version_calls w8 HM8.out (Nat.le_trans (checkR_ok HCK.out).2.1 (by omega))
      simp only at hvc
      clear g3 g4 g5 hL hn1 hn2 hck
      go_wp2_with fail
      refine hvc.mono ?_
      rintro e w9 ⟨v9, rfl, g1, g2, g3⟩
      have HM9 := Lib.hid (HM8.out.below g2)
      have HB9 := Lib.hid (HB8.out.trans (g2.mono HB8.out.size))
      obtain ⟨-, A9, c9, hv9, -⟩ := id g1.rds
      subst hv9
      have hlc := lcheck_calls w9 g1.rds g1.lt lg nx sq HCK.out
      clear g1 g2 g3 hvc HB8 HM8
      go_wp2_with fail
      refine hlc.mono ?_
      rintro e w10 ⟨rfl, g1⟩
      have HM10 := Lib.hid (HM9.out.below g1)
      have HB10 := Lib.hid (HB9.out.trans (g1.mono HB9.out.size))
      clear g1 hlc HB9 HM9
      go_wp2_with fail
      refine (number_calls w10 HM10.out).mono ?_
      rintro e w' ⟨rfl, rfl⟩
      go_upto_region 12 with fail
      have HB9 := HB10
      obtain ⟨wz, hwz⟩ : ∃ x, x = w10 := ⟨_, rfl⟩
      subst hwz
      have ha63 := i64_and63 room
      obtain ⟨r, hr⟩ : ∃ r : Nat, room % 64 = (r : Int) := ⟨(room % 64).toNat, by omega⟩
      rw [hr] at ha63
      have hr64 : r < 64 := by omega
      have hnw := new_calls wz (r : Int)
      rw [new_empty (r : Int) (by omega) (by omega)] at hnw
      clear hr
      go_wp2_with fail
      refine hnw.mono ?_
      rintro e y1 ⟨d2, rfl, g1, g2⟩
      have HD1 := Lib.hid (show DK y1 d2 (fun b => wz.heap.size ≤ b ∧ b < y1.heap.size) (emptyP r) from ⟨g1, fun b hb => hb.2⟩)
      have HY1 := Lib.hid (HB9.out.trans (g2.mono HB9.out.size))
      have HYS := Lib.hid (show w.heap.size ≤ wz.heap.size ∧ wz.heap.size ≤ y1.heap.size from ⟨HB9.out.size, g2.size⟩)
      clear g1 g2 hnw ha63
      have hld := load_calls (HG.out.below HY1.out) HD1.out.is
      rw [load_empty] at hld
      go_wp2_with fail
      refine hld.mono ?_
      rintro e y2 ⟨g1, mb2, fv2, rfl, g2, g3, g4⟩
      have HY2 := Lib.hid (HY1.out.trans (g1.mono HY1.out.size))
      have HD2 := Lib.hid (HD1.out.below g1)
      have HM2 := Lib.hid g2
      have HMB := Lib.hid g3
      have HFV := Lib.hid g4
      clear g1 g2 g3 g4 hld
      go_wp2_with fail
      refine (lmeta_calls y2 1).mono ?_
      rintro e y4 ⟨rfl, g1⟩
      obtain ⟨Y5, hY5⟩ : ∃ x, x = y4.alloc (.cells #[.int .i64 1, .int .i64 0, .string ⟨#[97]⟩, .string ⟨#[98]⟩, .int .i64 5] 42) := ⟨_, rfl⟩
      have hB35 : RowKit.Below y2.heap.size y2 Y5 := by rw [hY5]; exact g1.alloc g1.size _
      have HA5 := Lib.hid (show Y5.heap[y4.heap.size]? = some (.cells #[.int .i64 1, .int .i64 0, .string ⟨#[97]⟩, .string ⟨#[98]⟩, .int .i64 5] 42 (0, 0)) by rw [hY5]; exact heap_alloc_new y4 _)
      have HY5 := Lib.hid (HY2.out.trans (hB35.mono HY2.out.size))
      have HD5 := Lib.hid (HD2.out.below hB35)
      have HM5 := Lib.hid (HM2.out.below hB35)
      have HW5 := Lib.hid hY5.symm
      clear g1 hY5 hB35
      have hdo := do_one Y5 (HG.out.below HY5.out) HD5.out (fun h => by have := hgl.1; have := HYS.out.1; omega) (fun h => by have := hgl.2; have := HYS.out.1; omega) (fun h => by have := HMB.out; omega) HM5.out (fun b hb h => by have := HFV.out b hb; omega) HA5.out
      by_cases hr37 : r < 37
      · rw [fresh_full (r : Int) (by omega)] at hdo
        clear hr37
        go_wp2_with fail
        rw [HW5.out]
        refine hdo.mono ?_
        rintro e y6 ⟨rfl, G6, k1, k2, k3, k4, -⟩
        have HY6 := Lib.hid (HY5.out.trans (show RowKit.Below w.heap.size Y5 y6 from k2.below (fun b hb => hb.elim (fun h => by have := HYS.out.1; omega) (fun h => by have := HMB.out; have := HYS.out; omega)) HY5.out.size))
        have HD6 := Lib.hid k1
        clear k1 k2 k3 k4 hdo
        have hld := load_calls (HG.out.below HY6.out) HD6.out.is
        (try simp only at hld)
        rw [load_empty] at hld
        go_wp2_with fail
        refine hld.mono ?_
        rintro e y7 ⟨g1, mb7, fv7, rfl, g2, g3, g4⟩
        have HY7 := Lib.hid (HY6.out.trans (g1.mono HY6.out.size))
        have HM7 := Lib.hid g2
        clear g1 g2 g3 g4 hld
        go_wp2_with fail
        refine (version_first y7 HM7.out).mono ?_
        rintro e y8 ⟨x8, rfl, g1, g2, g3⟩
        obtain ⟨-, A8, c8, hx8, -⟩ := id g1.rds
        subst hx8
        have HY8 := Lib.hid (HY7.out.trans (g2.mono HY7.out.size))
        clear g1 g2 g3
        go_wp2_with fail
        refine (first_calls y8).mono ?_
        rintro e y9 ⟨rfl, g1⟩
        have HY9 := Lib.hid (HY8.out.trans (g1.mono HY8.out.size))
        clear g1
        go_wp2_with fail
        refine (same_empty y9 A8 none c8 0 1 1 0).mono ?_
        rintro e y10 ⟨rfl, g1⟩
        have HBE := Lib.hid (HY9.out.trans (g1.mono HY9.out.size))
        have hnd1 := trivial
        clear g1
        clear hnd1
        have hnd := field_next none 0 0 0 0 0
        go_wp2_with fail
        refine (load_nil _).mono ?_
        rintro e w' ⟨rfl, rfl⟩
        go_wp2_with fail
        refine (do_nil _ (.bool true) (.bool true) 0 0 0).mono ?_
        rintro e wq1 ⟨rfl, g1⟩
        have HQ1 := Lib.hid (HBE.out.trans (g1.mono HBE.out.size))
        clear g1
        go_wp2_with fail
        refine (number_nil _).mono ?_
        rintro e w' ⟨rfl, rfl⟩
        go_wp2_with fail
        refine (named_nil _).mono ?_
        rintro e w' ⟨rfl, rfl⟩
        go_wp2_with fail
        refine (version_nil _).mono ?_
        rintro e wq2 ⟨rfl, g1⟩
        have HQ2 := Lib.hid (HQ1.out.trans (g1.mono HQ1.out.size))
        clear g1
        go_wp2_with fail
        go_ret
        exact ⟨rfl, HQ2.out⟩
      · rw [fresh_one (r : Int) (by omega)] at hdo
        clear hr37
        go_wp2_with fail
        rw [HW5.out]
        refine hdo.mono ?_
        rintro e y6 ⟨rfl, G6, k1, k2, k3, -, k5⟩
        have HY6 := Lib.hid (HY5.out.trans (show RowKit.Below w.heap.size Y5 y6 from k2.below (fun b hb => hb.elim (fun h => by have := HYS.out.1; omega) (fun h => by have := HMB.out; have := HYS.out; omega)) HY5.out.size))
        have HD6 := Lib.hid k1
        clear k1 k2 k3 k5 hdo
        have hld := load_calls (HG.out.below HY6.out) HD6.out.is
        (try simp only at hld)
        rw [load_last] at hld
        go_wp2_with fail
        refine hld.mono ?_
        rintro e y7 ⟨g1, mb7, fv7, rfl, g2, g3, g4⟩
        have HBE := Lib.hid (HY6.out.trans (g1.mono HY6.out.size))
        have hnd1 := trivial
        clear g1 g2 g3 g4 hld
        clear hnd1
        have hnd := field_next none 0 0 0 0 0
        go_wp2_with fail
        refine (load_nil _).mono ?_
        rintro e w' ⟨rfl, rfl⟩
        go_wp2_with fail
        refine (do_nil _ (.bool true) (.bool true) 0 0 0).mono ?_
        rintro e wq1 ⟨rfl, g1⟩
        have HQ1 := Lib.hid (HBE.out.trans (g1.mono HBE.out.size))
        clear g1
        go_wp2_with fail
        refine (number_nil _).mono ?_
        rintro e w' ⟨rfl, rfl⟩
        go_wp2_with fail
        refine (named_nil _).mono ?_
        rintro e w' ⟨rfl, rfl⟩
        go_wp2_with fail
        refine (version_nil _).mono ?_
        rintro e wq2 ⟨rfl, g1⟩
        have HQ2 := Lib.hid (HQ1.out.trans (g1.mono HQ1.out.size))
        clear g1
        go_wp2_with fail
        go_ret
        exact ⟨rfl, HQ2.out⟩

end Go.Proofs.YtebkmpgmcldeoaaDoor
