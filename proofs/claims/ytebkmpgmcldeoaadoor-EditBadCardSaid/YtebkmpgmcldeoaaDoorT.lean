/- All records of bytes. -/
import Derived.Test.YtebkmpgmcldeoaaDoorS
namespace Go.Proofs.YtebkmpgmcldeoaaDoor
open Go.RowKit
set_option linter.unusedVariables false

/-- What a call that lays elements behind v leaves. -/
def AppV (w w' : World) (E size : Nat) (v v' : Value) (n : Nat) (xs : List Value) : Prop := Own w' E size v' n xs ∧ Keep (fun k => v.ownBlock = some k) w w' ∧ ∀ k, v'.ownBlock = some k → v.ownBlock = some k ∨ w.heap.size ≤ k
theorem AppV.refl {w : World} {E size : Nat} {v : Value} {n : Nat} {xs : List Value} (h : Own w E size v n xs) : AppV w w E size v v n xs := ⟨h, Keep.refl _ _, fun k hk => .inl hk⟩
theorem AppV.trans {w w1 w2 : World} {E size : Nat} {v v1 v2 : Value} {n1 n2 : Nat} {l1 l2 : List Value} (h : AppV w w1 E size v v1 n1 l1) (k : AppV w1 w2 E size v1 v2 n2 l2) : AppV w w2 E size v v2 n2 l2 :=
  ⟨k.1, h.2.1.step k.2.1 h.2.2, fun i hi => (k.2.2 i hi).elim (h.2.2 i) fun hle => .inr (Nat.le_trans h.2.1.size hle)⟩

/-- append(s, x) of one element, that lies in a new block. -/
theorem app_elem (w : World) {ops : Array Oper} {rest : List Oper} {o : Oper} {a : Act} {Q : Exit → Act → World → Prop} (hgd : o.guard = none) (s x : Operand) (T E : TypeId)
    (ho : o.op = .call { callee := .builtin .append, args := #[s, x], argTypes := #[T, T] })
    (size bytes : Nat) (z : Value) (hT : Tryd.prog.underlying T = some (.slice E)) (hi : (Tryd.prog.info? E).map (fun i => (i.zero, i.size, i.bytes)) = some (some z, size, bytes)) (hzs : z.cells.size = size) (hsz : 0 < size)
    {v : Value} {n : Nat} {xs : List Value} (hs : a.eval s = v) (hown : Own w E size v n xs) (cs : Array Value) (hcs : cs.size = size) (h1 : ∀ u ∈ cs.toList, u.oneCell' = true) (hx : a.eval x = .slice (some ⟨w.heap.size, 0, none⟩) 1 1)
    (h63 : n + 1 ≤ 4294967296) (hby : bytes ≤ 4096)
    (h : ∀ A' n' c' w', Hid (n' = n + 1) → Hid (AppV w w' E size v (.slice A' n' c') (n + 1) (xs ++ cs.toList)) → wpList Tryd.prog ops Q rest (a.put o.dst (.slice A' n' c')) w') : wpList Tryd.prog ops Q (o :: rest) a (w.alloc (.cells cs E)) := by
  have hb : (n + 1) * bytes ≤ 140737488355328 := Nat.le_trans (Nat.mul_le_mul h63 hby) (by omega)
  have hr : Rds (w.alloc (.cells cs E)) size (.slice (some ⟨w.heap.size, 0, none⟩) 1 1) 1 cs.toList := (Own.made (e := E) (size := size) (n := 1) w cs (by omega) (by unfold maxLen; omega)).rds
  refine wpList_append_to _ hgd s x T ho E size bytes z hT hi hzs hsz v n xs hs (hown.keep fun k hk => Below.heap_alloc _ _ _ (hown.lt k hk)) _ 1 cs.toList hx hr h1 (by unfold maxLen; omega) hb fun v' w' g1 g2 g3 => ?_
  obtain ⟨A', c', rfl, _⟩ := g1.rds.2
  refine h A' _ c' w' (Lib.hid rfl) (Lib.hid ⟨g1, ⟨g2.os, g2.tape, g2.output, Nat.le_trans (by simp) g2.size, fun k hk hn => ?_⟩, fun k hk => ?_⟩)
  · rw [g2.block k (by simp; omega) (fun e => hn e.symm)]; exact Below.heap_alloc _ _ _ hk
  · rcases g3 with e | e
    · exact .inl (e ▸ hk)
    · rw [e] at hk; injection hk with hk; exact .inr (by simp at hk; omega)

/-- Texts of bytes, one after the other, each with an array of its own from base on. -/
def Inner (w : World) (base : Nat) : List Value → List (List UInt8) → Prop
  | [], [] => True
  | v :: vs, d :: ds => (OwnB w v d ∧ ∀ k, v.ownBlock = some k → base ≤ k) ∧ Inner w base vs ds
  | _, _ => False

theorem Inner.keep {w w' : World} {base : Nat} {F : Nat → Prop} : ∀ {vals : List Value} {ds : List (List UInt8)}, Inner w base vals ds → Keep F w w' → (∀ v ∈ vals, ∀ k, v.ownBlock = some k → ¬ F k) → Inner w' base vals ds
  | [], [], _, _, _ => trivial
  | _ :: _, _ :: _, ⟨⟨h1, h2⟩, h⟩, hk, hn => ⟨⟨h1.keeps hk (hn _ (List.mem_cons_self)), h2⟩, Inner.keep h hk fun v hv => hn v (List.mem_cons_of_mem _ hv)⟩
  | [], _ :: _, h, _, _ => h.elim
  | _ :: _, [], h, _, _ => h.elim
theorem Inner.length {w : World} {base : Nat} : ∀ {vals : List Value} {ds : List (List UInt8)}, Inner w base vals ds → vals.length = ds.length
  | [], [], _ => rfl
  | _ :: _, _ :: _, h => by simp [Inner.length h.2]
  | [], _ :: _, h => h.elim
  | _ :: _, [], h => h.elim
theorem Inner.snoc {w : World} {base : Nat} {v : Value} {d : List UInt8} (hv : OwnB w v d ∧ ∀ k, v.ownBlock = some k → base ≤ k) : ∀ {vals : List Value} {ds : List (List UInt8)}, Inner w base vals ds → Inner w base (vals ++ [v]) (ds ++ [d])
  | [], [], _ => ⟨hv, trivial⟩
  | _ :: _, _ :: _, h => ⟨h.1, Inner.snoc hv h.2⟩
  | [], _ :: _, h => h.elim
  | _ :: _, [], h => h.elim
/-- What is inside isn't the array outside. -/
theorem Inner.ne {w : World} {base : Nat} {o : Nat} {c : Array Value} {E : Nat} (ho : w.heap[o]? = some (.cells c E (0, 0))) (hE : E ≠ 5) : ∀ {vals : List Value} {ds : List (List UInt8)}, Inner w base vals ds → ∀ v ∈ vals, ∀ k, v.ownBlock = some k → k ≠ o
  | [], [], _ => fun v hv => by cases hv
  | _ :: _, _ :: _, h => fun v hv k hk => by
    rcases List.mem_cons.1 hv with rfl | hv
    · exact h.1.1.ne (e' := 0) ho (by simp [hE]) hk
    · exact Inner.ne ho hE h.2 v hv k hk
  | [], _ :: _, h => h.elim
  | _ :: _, [], h => h.elim
theorem Own.block {w : World} {e : TypeId} {size : Nat} {v : Value} {n : Nat} {xs : List Value} (h : Own w e size v n xs) {k : Nat} (hk : v.ownBlock = some k) : ∃ c, w.heap[k]? = some (.cells c e (0, 0)) := by
  rcases h.2 with ⟨rfl, _⟩ | ⟨g, cap, cur, rfl, hg, _⟩
  · cases hk
  · have hgk : g = k := by injection hk
    subst hgk; exact ⟨cur, hg⟩

theorem nextL_pos {b d : List UInt8} {n e : Nat} (h : nextL b = (d, n, e)) (he : e = 0) : 12 ≤ n ∧ n ≤ b.length ∧ d.length + 12 = n := by
  subst he
  unfold nextL at h
  split at h
  · cases h
  · split at h
    · cases h
    · split at h
      · cases h
      · split at h
        · cases h
        · injection h with h1 h2; injection h2 with h2 h3
          subst h1 h2
          refine ⟨by omega, by omega, ?_⟩
          simp; omega

/-- all records of bytes, how many bytes they have; the error -/
def allAux : Nat → List UInt8 → List (List UInt8) × Nat × Nat
  | 0, _ => ([], 0, 0)
  | k + 1, b => if b.length = 0 then ([], 0, 0) else if (nextL b).2.2 = 8 then ([], 0, 0) else if (nextL b).2.2 ≠ 0 then ([], 0, (nextL b).2.2) else
    ((nextL b).1 :: (allAux k (b.drop (nextL b).2.1)).1, (nextL b).2.1 + (allAux k (b.drop (nextL b).2.1)).2.1, (allAux k (b.drop (nextL b).2.1)).2.2)
def allL (b : List UInt8) : List (List UInt8) × Nat × Nat := allAux (b.length + 1) b

theorem info_bytes : (Tryd.prog.info? 22).map (fun i => (i.zero, i.size, i.bytes)) = some (some (.slice none 0 0), 1, 24) := by kernel_rfl
theorem tyBB : Tryd.prog.underlying 71 = some (.slice 22) := by kernel_rfl

set_option maxHeartbeats 1600000 in
set_option maxRecDepth 100000 in
theorem all_calls (w : World) (hG : Glob w) {v : Value} {b : List UInt8} (hr : RdB w v b) (hv : ∀ k, v.ownBlock = some k → k < w.heap.size) (hl : b.length ≤ 4294967000) :
    Calls Tryd.prog 27 #[v] w fun e w' => ∃ v' vals, e = .returned (.tuple #[v', .int .i64 (allL b).2.1, .int .i64 (allL b).2.2]) ∧ Own w' 22 1 v' (allL b).1.length vals ∧ Inner w' w.heap.size vals (allL b).1 ∧ Below w.heap.size w w' ∧ ∀ k, v'.ownBlock = some k → w.heap.size ≤ k := by
  have HG := Lib.hid hG
  have HR := Lib.hid hr
  have HV := Lib.hid hv
  obtain ⟨_, A, c, rfl, hc, _⟩ := hr
  clear hG hv
  go_enter Tryd.func27, Tryd.ntmps27
  go_wp2
  go_loopw [5, 6] (fun v1 i wr => ∃ (j k : Nat) (vals : List Value) (ds : List (List UInt8)), i = .int .i64 j ∧ j ≤ b.length ∧ Hid (b.length < j + k) ∧ Hid (12 * ds.length ≤ j) ∧ Hid (Own wr 22 1 v1 ds.length vals) ∧ Hid (∀ k, v1.ownBlock = some k → w.heap.size ≤ k) ∧ Hid (Inner wr w.heap.size vals ds) ∧ Hid (Below w.heap.size w wr) ∧
      Hid (allL b = (ds ++ (allAux k (b.drop j)).1, j + (allAux k (b.drop j)).2.1, (allAux k (b.drop j)).2.2))) (fun _ i _ => b.length - (intOf i).toNat)
  case atStart => exact ⟨0, b.length + 1, [], [], rfl, Nat.zero_le _, Lib.hid (by omega), Lib.hid (by simp), Lib.hid (Own.nil _ _ _), Lib.hid (fun k hk => by cases hk), Lib.hid trivial, Lib.hid (Below.refl _ _), Lib.hid (by simp [allL])⟩
  case round =>
    obtain ⟨j, k, vals, ds, rfl, hj, HK, HD, HO, HOB, HI, HB, HE⟩ := hrel
    by_cases hlt : j < b.length
    · have hRw : RdB wr (.slice A b.length c) b := HR.out.keep fun q hq => HB.out.block q (HV.out q hq)
      have hGw : Glob wr := HG.out.below HB.out
      obtain ⟨x, hx, hrx, hbx⟩ := hRw.cut_l j (by omega)
      have HX := Lib.hid hrx
      have HGW := Lib.hid hGw
      have hnx := next_calls wr hGw hrx (by simp; omega)
      obtain ⟨k, rfl⟩ : ∃ m, k = m + 1 := ⟨k - 1, by have := HK.out; omega⟩
      have hne : ¬ (b.drop j).length = 0 := by simp; omega
      obtain ⟨⟨d, n, e⟩, hdne⟩ : ∃ r, nextL (b.drop j) = r := ⟨_, rfl⟩
      rw [hdne] at hnx
      have HS := Lib.hid (show allAux (k + 1) (b.drop j) = if e = 8 then ([], 0, 0) else if e ≠ 0 then ([], 0, e) else (d :: (allAux k (b.drop (j + n))).1, n + (allAux k (b.drop (j + n))).2.1, (allAux k (b.drop (j + n))).2.2) by
        rw [allAux, if_neg hne, hdne]; simp only [List.drop_drop])
      have HP := Lib.hid (nextL_pos hdne)
      have HBV := Lib.hid (show ∀ q, x.ownBlock = some q → q < w.heap.size from fun q hq => HV.out q (hbx ▸ hq))
      clear hRw hGw hrx hbx hne hdne
      simp only at hnx
      by_cases h8 : e = 8
      · have HF := Lib.hid (show allL b = (ds, j, 0) by rw [HE.out, HS.out, if_pos h8]; simp)
        have h8b : ((e : Int) == 8) = true := by rw [beq_iff_eq]; omega
        clear h8
        go_wp2_with fail
        refine hnx.mono ?_
        rintro e' w1 ⟨v1, rfl, h1, h2, h3⟩
        have HO1 := Lib.hid (HO.out.keep (w' := w1) fun q hq => h2.block q (HO.out.lt q hq))
        have HI1 := Lib.hid (HI.out.keep (Keep.of_below (F := fun _ => False) h2) fun _ _ _ _ h => h)
        have HB1 := Lib.hid (HB.out.trans (h2.mono HB.out.size))
        clear h1 h2 h3
        go_wp2
        go_ret3
        exact ⟨_, vals, by rw [HF.out]; rfl, by rw [HF.out]; exact HO1.out, by rw [HF.out]; exact HI1.out, HB1.out, HOB.out⟩
      · have h8b : ((e : Int) == 8) = false := by rw [beq_eq_false_iff_ne]; omega
        by_cases h0 : e = 0
        · have hp := HP.out h0
          have hn1 : 12 ≤ n := hp.1
          have hn2 : n ≤ b.length - j := by have := hp.2.1; simpa using this
          have HF := Lib.hid (show allL b = (ds ++ d :: (allAux k (b.drop (j + n))).1, j + (n + (allAux k (b.drop (j + n))).2.1), (allAux k (b.drop (j + n))).2.2) by
            rw [HE.out, HS.out, if_neg h8, if_neg (by omega)])
          have h0b : ((e : Int) != 0) = false := by rw [bne_eq_false_iff_eq]; omega
          have HE0 := Lib.hid h0
          clear h8 h0 hp
          go_wp2_with fail
          refine hnx.mono ?_
          rintro e' w1 ⟨v1, rfl, h1, h2, h3⟩
          have HO1 := Lib.hid (HO.out.keep (w' := w1) fun q hq => h2.block q (HO.out.lt q hq))
          have HI1 := Lib.hid (HI.out.keep (Keep.of_below (F := fun _ => False) h2) fun _ _ _ _ h => h)
          have HB1 := Lib.hid (HB.out.trans (h2.mono HB.out.size))
          have HV1 := Lib.hid (show OwnB w1 v1 d ∧ ∀ q, v1.ownBlock = some q → w.heap.size ≤ q from ⟨h1, fun q hq => Nat.le_trans HB.out.size (h3 q hq)⟩)
          obtain ⟨A1, c1, rfl, _⟩ := h1.rds.2
          have hdl : ds.length + 1 ≤ 4294967296 := by have := HD.out; omega
          clear h1 h2 h3
          go_wp2_with (at_builtin; go_must (refine app_elem w1 rfl _ _ 71 22 rfl 1 24 (.slice none 0 0) tyBB info_bytes rfl (by decide) (v := u5) rfl HO1.out #[.slice A1 d.length c1] rfl (by simp [Value.oneCell']) rfl hdl (by omega) ?_); intro A9 n9 c9 w4 hn9 HA4)
          have HI4 : Hid (Inner w4 w.heap.size (vals ++ [.slice A1 d.length c1]) (ds ++ [d])) := by
            have hne : ∀ v ∈ vals, ∀ q, v.ownBlock = some q → ¬ (u5.ownBlock = some q) := fun v hv q hq hu => by
              obtain ⟨cc, hcc⟩ := HO1.out.block hu
              exact Inner.ne hcc (by decide) HI1.out v hv q hq rfl
            refine Inner.snoc ⟨HV1.out.1.keeps HA4.out.2.1 fun q hq hu => ?_, HV1.out.2⟩ (HI1.out.keep HA4.out.2.1 hne)
            obtain ⟨cc, hcc⟩ := HO1.out.block hu
            exact HV1.out.1.ne (e' := 0) hcc (by simp) hq rfl
          have HB4 := Lib.hid (HB1.out.trans (HA4.out.2.1.below HOB.out HB1.out.size))
          have HOB4 := Lib.hid (show ∀ q, (Value.slice A9 n9 c9).ownBlock = some q → w.heap.size ≤ q from fun q hq => (HA4.out.2.2 q hq).elim (HOB.out q) fun h => Nat.le_trans HB1.out.size h)
          go_roundw
          case rel => exact ⟨j + n, k, vals ++ [.slice A1 d.length c1], ds ++ [d], by rw [Int.natCast_add], by omega, Lib.hid (by have := HK.out; omega), Lib.hid (by have := HD.out; simp; omega), Lib.hid (by rw [List.length_append]; exact HA4.out.1), HOB4, HI4, HB4, Lib.hid (by rw [HF.out]; simp [Nat.add_assoc])⟩
          case measure => simp [intOf]; omega
        · have HF := Lib.hid (show allL b = (ds, j, e) by rw [HE.out, HS.out, if_neg h8, if_pos h0]; simp)
          have h0b : ((e : Int) != 0) = true := by rw [bne_iff_ne]; omega
          clear h8 h0
          go_wp2_with fail
          refine hnx.mono ?_
          rintro e' w1 ⟨v1, rfl, h1, h2, h3⟩
          have HO1 := Lib.hid (HO.out.keep (w' := w1) fun q hq => h2.block q (HO.out.lt q hq))
          have HI1 := Lib.hid (HI.out.keep (Keep.of_below (F := fun _ => False) h2) fun _ _ _ _ h => h)
          have HB1 := Lib.hid (HB.out.trans (h2.mono HB.out.size))
          clear h1 h2 h3
          go_wp2
          go_ret3
          exact ⟨_, vals, by rw [HF.out]; rfl, by rw [HF.out]; exact HO1.out, by rw [HF.out]; exact HI1.out, HB1.out, HOB.out⟩
    · obtain rfl : j = b.length := by omega
      have HF := Lib.hid (show allL b = (ds, b.length, 0) by
        rw [HE.out, List.drop_length]
        cases k <;> simp [allAux])
      go_wp2
      go_ret3
      exact ⟨_, vals, by rw [HF.out]; rfl, by rw [HF.out]; exact HO.out, by rw [HF.out]; exact HI.out, HB.out, HOB.out⟩

end Go.Proofs.YtebkmpgmcldeoaaDoor
