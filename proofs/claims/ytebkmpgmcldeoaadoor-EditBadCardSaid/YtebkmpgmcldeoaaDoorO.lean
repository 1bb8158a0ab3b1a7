/- Slices: owned (an array of one's own), read; append. -/
import Derived.Test.YtebkmpgmcldeoaaDoorB
import Derived.Lib.AppendStr
import Derived.Maps.AppendAt
namespace Go.Proofs.YtebkmpgmcldeoaaDoor
open Go.RowKit

/-- v is a slice of n elements (each of so many cells) at the head of an array of its own that holds the cells xs. -/
def Own (w : World) (e : TypeId) (size : Nat) (v : Value) (n : Nat) (xs : List Value) : Prop :=
  xs.length = n * size ∧
  ((v = .slice none 0 0 ∧ n = 0) ∨
   ∃ g cap cur, v = .slice (some ⟨g, 0, none⟩) n cap ∧ w.heap[g]? = some (.cells cur e (0, 0)) ∧ n ≤ cap ∧ cap ≤ maxLen ∧ cap * size ≤ cur.size ∧ cur.toList.take (n * size) = xs)

/-- v is a slice of n elements whose cells read xs. -/
def Rds (w : World) (size : Nat) (v : Value) (n : Nat) (xs : List Value) : Prop :=
  xs.length = n * size ∧ ∃ A c, v = .slice A n c ∧ n ≤ c ∧ (A = none → n = 0 ∧ c = 0) ∧ ∀ a, A = some a → a.spot = none ∧ ∀ j u, xs[j]? = some u → w.cell? (a.add j) = some u

section
variable {w : World} {e : TypeId} {size : Nat} {v : Value} {n : Nat} {xs : List Value}

theorem Own.nil (w : World) (e : TypeId) (size : Nat) : Own w e size (.slice none 0 0) 0 [] := ⟨by simp, .inl ⟨rfl, rfl⟩⟩

theorem Own.lt (h : Own w e size v n xs) : ∀ k, v.ownBlock = some k → k < w.heap.size := by
  intro k hk
  rcases h.2 with ⟨rfl, _⟩ | ⟨g, cap, cur, rfl, hg, _⟩
  · cases hk
  · injection hk with hk; subst hk; exact lt_of_heap hg

theorem Own.keep {w' : World} (h : Own w e size v n xs) (hk : ∀ k, v.ownBlock = some k → w'.heap[k]? = w.heap[k]?) : Own w' e size v n xs := by
  refine ⟨h.1, ?_⟩
  rcases h.2 with h | ⟨g, cap, cur, hv, hg, r⟩
  · exact .inl h
  · exact .inr ⟨g, cap, cur, hv, by rw [hk g (by rw [hv]; rfl)]; exact hg, r⟩

theorem Own.keeps {w' : World} {F : Nat → Prop} (h : Own w e size v n xs) (hk : Keep F w w') (hn : ∀ k, v.ownBlock = some k → ¬ F k) : Own w' e size v n xs :=
  h.keep fun k hv => hk.block k (h.lt k hv) (hn k hv)

theorem Own.rds (h : Own w e size v n xs) : Rds w size v n xs := by
  refine ⟨h.1, ?_⟩
  rcases h.2 with ⟨rfl, rfl⟩ | ⟨g, cap, cur, rfl, hg, h1, h2, h3, h4⟩
  · exact ⟨none, 0, rfl, Nat.le_refl _, fun _ => ⟨rfl, rfl⟩, fun a h => by cases h⟩
  · refine ⟨some ⟨g, 0, none⟩, cap, rfl, h1, (fun h => by cases h), fun a ha => ⟨by obtain rfl := Option.some.inj ha; rfl, fun j u hu => ?_⟩⟩
    obtain rfl := Option.some.inj ha
    have e1 : (⟨g, 0, none⟩ : Addr).add j = ⟨g, j, none⟩ := by unfold Addr.add; split <;> simp_all
    rw [e1, cell_of_heap hg]
    rw [← h4, List.getElem?_take] at hu
    split at hu
    · simpa using hu
    · cases hu

theorem Own.made (w : World) (cs : Array Value) (hs : cs.size = n * size) (hm : n ≤ maxLen) : Own (w.alloc (.cells cs e)) e size (.slice (some ⟨w.heap.size, 0, none⟩) n n) n cs.toList :=
  ⟨by simpa using hs, .inr ⟨w.heap.size, n, cs, rfl, heap_alloc_new w _, Nat.le_refl _, hm, by omega, List.take_of_length_le (by simp [hs])⟩⟩

theorem Rds.nil (w : World) (size : Nat) : Rds w size (.slice none 0 0) 0 [] := (Own.nil w 0 size).rds

theorem Rds.keep {w' : World} (h : Rds w size v n xs) (hk : ∀ k, v.ownBlock = some k → w'.heap[k]? = w.heap[k]?) : Rds w' size v n xs := by
  obtain ⟨h1, A, c, rfl, h2, h3, h4⟩ := h
  refine ⟨h1, A, c, rfl, h2, h3, fun a ha => ⟨(h4 a ha).1, fun j u hu => ?_⟩⟩
  subst ha
  rw [World.cell?_of_block (w := w) (by rw [show (a.add j).block = a.block from by unfold Addr.add; split <;> rfl]; exact hk _ rfl)]
  exact (h4 a rfl).2 j u hu

theorem Rds.keeps {w' : World} {F : Nat → Prop} (h : Rds w size v n xs) (hk : Keep F w w') (hlt : ∀ k, v.ownBlock = some k → k < w.heap.size ∧ ¬ F k) : Rds w' size v n xs :=
  h.keep fun k hv => hk.block k (hlt k hv).1 (hlt k hv).2

/-- The block of what is read, where something is read. -/
theorem Rds.lt (h : Rds w size v n xs) (hp : 0 < n * size) : ∀ k, v.ownBlock = some k → k < w.heap.size := by
  obtain ⟨h1, A, c, rfl, h2, h3, h4⟩ := h
  intro k hk
  cases A with
  | none => cases hk
  | some a =>
    injection hk with hk; subst hk
    have hx : 0 < xs.length := by omega
    have := (h4 a rfl).2 0 xs[0] (by simp [hx])
    exact World.block_lt_of_cell? w a (by simpa [Addr.add] using this)
end

section
variable {P : Program} (w : World)

theorem run_append_to (t ty e : TypeId) (i : TypeInfo) (z : Value) (size bytes : Nat) (ht : P.underlying t = some (.slice e)) (hi : P.info? e = some i) (hz : i.zero = some z)
    (hsize : i.size = size) (hby : i.bytes = bytes) (hzs : z.cells.size = size) (hsz : 0 < size)
    {v : Value} {n : Nat} {xs : List Value} (hown : Own w e size v n xs)
    {x : Value} {m : Nat} {news : List Value} (hsrc : Rds w size x m news) (h1 : ∀ u ∈ news, u.oneCell' = true)
    (h63 : n + m ≤ maxLen) (hbytes : (n + m) * bytes ≤ 140737488355328) :
    ∃ v' w', (Builtin.append_ #[t, t] ty #[v, x]).run P w = .ok v' w' ∧ Own w' e size v' (n + m) (xs ++ news) ∧ w.grownBy w' v.ownBlock ∧
      (v'.ownBlock = v.ownBlock ∨ v'.ownBlock = some w.heap.size) := by
  subst hsize
  subst hby
  obtain ⟨hl, A, c, rfl, hmc, hA, hcell⟩ := hsrc
  have hsmall : n + m ≤ 9223372036854775807 := by simp only [maxLen] at h63; omega
  have hlen : (xs ++ news).length = (n + m) * i.size := by rw [List.length_append, hown.1, hl, Nat.add_mul]
  by_cases hm : m = 0
  · subst hm
    have hn : news = [] := List.eq_nil_of_length_eq_zero (by simpa using hl)
    subst hn
    refine ⟨v, w, ?_, by simpa using hown, ⟨rfl, rfl, rfl, Nat.le_refl _, fun _ _ _ => rfl⟩, .inl rfl⟩
    rcases hown.2 with ⟨rfl, rfl⟩ | ⟨g, cap, cur, rfl, hg, hnc, hcm, hcs, htake⟩
    · cases A <;> simp [Builtin.append_, run_underlying ht, sizeOf, typeInfo, hi, Builtin.lenOf, Builtin.firstCells, loadCells, loadCellsFrom]
    · cases A <;> simp [Builtin.append_, run_underlying ht, sizeOf, typeInfo, hi, Builtin.lenOf, Builtin.firstCells, loadCells, loadCellsFrom, hnc, storeCells]
  cases A with
  | none => exact absurd (hA rfl).1 hm
  | some a =>
  have hnews := (hcell a rfl).2
  have grown : ∀ (old : Nat), old < n + m → ∀ (row : Option Nat),
      Own (w.drew.alloc (.cells (xs.toArray ++ news.toArray ++ Builtin.zeroCells z.cells (grownCap w (n + m) old e - (n + m))) e)) e i.size
        (.slice (some ⟨w.heap.size, 0, none⟩) (n + m) (grownCap w (n + m) old e)) (n + m) (xs ++ news) ∧
      w.grownBy (w.drew.alloc (.cells (xs.toArray ++ news.toArray ++ Builtin.zeroCells z.cells (grownCap w (n + m) old e - (n + m))) e)) row := by
    intro old ho row
    have hge := grownCap_ge w (n + m) old e
    have hcm : grownCap w (n + m) old e ≤ maxLen := grownCap_le_maxLen w (n + m) old e h63
    refine ⟨⟨hlen, .inr ⟨w.heap.size, _, _, rfl, heap_alloc_new w.drew _, hge, hcm, ?_, ?_⟩⟩, ⟨rfl, rfl, rfl, by simp, fun k hk _ => Below.heap_alloc w.drew _ k hk⟩⟩
    · simp only [Array.size_append, List.size_toArray, size_zeroCells, hzs, hown.1, hl, ← Nat.add_mul]
      refine Nat.mul_le_mul_right _ ?_
      omega
    · simp only [Array.toList_append, List.append_assoc]
      rw [← List.append_assoc, ← hlen]
      exact List.take_left
  rcases hown.2 with ⟨rfl, rfl⟩ | ⟨g, cap, cur, rfl, hg, hnc, hcm, hcs, htake⟩
  · have hx : xs = [] := List.eq_nil_of_length_eq_zero (by simpa using hown.1)
    subst hx
    have hr := run_append_nil (P := P) w t ty e i z ht hi hz a m c news hl hnews (by omega) (by omega) (by have hb := hbytes; simp only [Nat.zero_add] at hb; omega)
    have hgr := grown 0 (by omega) (Value.ownBlock (.slice none 0 0))
    simp only [Nat.zero_add, List.nil_append, Array.empty_append] at hgr ⊢
    exact ⟨_, _, hr, hgr.1, hgr.2, .inr rfl⟩
  · by_cases hroom : n + m ≤ cap
    · have hfit : n * i.size + news.length ≤ cur.size := by rw [hl, ← Nat.add_mul]; exact Nat.le_trans (Nat.mul_le_mul_right _ hroom) hcs
      have hr := run_append_room (P := P) w t ty e i ht hi g n cap cur hg a m c news hl hnews h1 hroom hfit
      refine ⟨_, _, hr, ⟨hlen, .inr ⟨g, cap, _, rfl, setRow_heap w g cur _ e _ hg, hroom, hcm, ?_, ?_⟩⟩, ⟨rfl, rfl, rfl, by simp, fun k _ hk => setRow_other w g k _ (fun e => hk (by simp [Value.ownBlock, e]))⟩, .inl rfl⟩
      · simp only [List.size_toArray, List.length_append, List.length_take, List.length_drop, Array.length_toList]
        omega
      · rw [htake, ← hlen]
        exact List.take_left
    · have holds : ∀ j u, xs[j]? = some u → w.cell? ((⟨g, 0, none⟩ : Addr).add j) = some u := by
        obtain ⟨_, A', c', e', _, _, h4⟩ := hown.rds
        injection e' with e1 e2 e3
        exact (h4 _ e1.symm).2
      have hr := run_append_grow (P := P) w t ty e i z ht hi hz ⟨g, 0, none⟩ n cap xs hown.1 holds a m c news hl hnews (by omega) (by omega) (growslice_fits (by omega) hbytes)
      have hgr := grown cap (by omega) (Value.ownBlock (.slice (some ⟨g, 0, none⟩) n cap))
      exact ⟨_, _, hr, hgr.1, hgr.2, .inr rfl⟩

theorem wpList_append_to {ops : Array Oper} {rest : List Oper} {o : Oper} {a : Act} {Q : Exit → Act → World → Prop} (hgd : o.guard = none) (s x : Operand) (t : TypeId)
    (ho : o.op = .call { callee := .builtin .append, args := #[s, x], argTypes := #[t, t] })
    (e : TypeId) (size bytes : Nat) (z : Value) (ht : P.underlying t = some (.slice e)) (hi : (P.info? e).map (fun i => (i.zero, i.size, i.bytes)) = some (some z, size, bytes))
    (hzs : z.cells.size = size) (hsz : 0 < size)
    (v : Value) (n : Nat) (xs : List Value) (hs : a.eval s = v) (hown : Own w e size v n xs)
    (xv : Value) (m : Nat) (news : List Value) (hx : a.eval x = xv) (hsrc : Rds w size xv m news) (h1 : ∀ u ∈ news, u.oneCell' = true)
    (h63 : n + m ≤ maxLen) (hbytes : (n + m) * bytes ≤ 140737488355328)
    (h : ∀ v' w', Own w' e size v' (n + m) (xs ++ news) → w.grownBy w' v.ownBlock → (v'.ownBlock = v.ownBlock ∨ v'.ownBlock = some w.heap.size) → wpList P ops Q rest (a.put o.dst v') w') : wpList P ops Q (o :: rest) a w := by
  obtain ⟨i, hi, hz, hsize, hby⟩ := info_parts hi
  refine wpList_plain hgd fun K hK => ?_
  obtain ⟨v', w', hr, h2, h3, h4⟩ := run_append_to (P := P) w t o.type e i z size bytes ht hi hz hsize hby hzs hsz hown hsrc h1 h63 hbytes
  unfold Oper.wp execOp
  simp only [ho, resolve, invoke, builtin, Sem.run_bind, Sem.run_pure, Result.andThen_ok, List.map_toArray, List.map_cons, List.map_nil, hs, hx, hr]
  exact hK _ _ (h v' w' h2 h3 h4)
end

/-! ### Bytes. -/
/-- Bytes as cells. -/
def byV (l : List UInt8) : List Value := l.map fun b => .int .u8 b.toNat
@[simp] theorem byV_length (l : List UInt8) : (byV l).length = l.length := by simp [byV]
theorem byV_append (a b : List UInt8) : byV (a ++ b) = byV a ++ byV b := by simp [byV]
theorem byV_oneCell (l : List UInt8) : ∀ u ∈ byV l, u.oneCell' = true := by
  intro u hu
  obtain ⟨b, _, rfl⟩ := List.mem_map.1 hu
  rfl
theorem byV_take (l : List UInt8) (n : Nat) : byV (l.take n) = (byV l).take n := by simp [byV]
theorem byV_drop (l : List UInt8) (n : Nat) : byV (l.drop n) = (byV l).drop n := by simp [byV]
theorem byV_get (l : List UInt8) (i : Nat) : (byV l)[i]? = l[i]?.map fun b => .int .u8 b.toNat := by simp [byV]

abbrev OwnB (w : World) (v : Value) (l : List UInt8) : Prop := Own w 5 1 v l.length (byV l)
abbrev RdB (w : World) (v : Value) (l : List UInt8) : Prop := Rds w 1 v l.length (byV l)

theorem info_u8 : (Tryd.prog.info? 5).map (fun i => (i.zero, i.size, i.bytes)) = some (some (.int .u8 0), 1, 1) := by kernel_rfl
theorem tyBytes : Tryd.prog.underlying 22 = some (.slice 5) := by kernel_rfl
theorem tyU8 : Tryd.prog.underlying 5 = some (.int .u8) := by kernel_rfl
theorem tyStr : Tryd.prog.underlying 9 = some .string := by kernel_rfl

/-- append(b, x...) of bytes. -/
theorem append_bytes (w : World) {ops : Array Oper} {rest : List Oper} {o : Oper} {a : Act} {Q : Exit → Act → World → Prop} (hgd : o.guard = none) (s x : Operand)
    (ho : o.op = .call { callee := .builtin .append, args := #[s, x], argTypes := #[22, 22] })
    {v : Value} {l : List UInt8} (hs : a.eval s = v) (hown : OwnB w v l) {xv : Value} {m : List UInt8} (hx : a.eval x = xv) (hsrc : RdB w xv m)
    (h63 : l.length + m.length ≤ 140737488355328)
    (h : ∀ A' n' c' w', Hid (n' = l.length + m.length) → OwnB w' (.slice A' n' c') (l ++ m) → w.grownBy w' v.ownBlock → ((Value.slice A' n' c').ownBlock = v.ownBlock ∨ (Value.slice A' n' c').ownBlock = some w.heap.size) → wpList Tryd.prog ops Q rest (a.put o.dst (.slice A' n' c')) w') : wpList Tryd.prog ops Q (o :: rest) a w :=
  wpList_append_to w hgd s x 22 ho 5 1 1 (.int .u8 0) tyBytes info_u8 rfl (by decide) v l.length (byV l) hs hown xv m.length (byV m) hx hsrc (byV_oneCell m) (by unfold maxLen; omega) (by omega)
    fun v' w' h2 h3 h4 => by
      obtain ⟨A', c', rfl, _⟩ := h2.rds.2
      exact h A' _ c' w' (Lib.hid rfl) (by unfold OwnB; rw [List.length_append, byV_append]; exact h2) h3 h4

section
open Go.Lib
theorem run_append_text_to {P : Program} (w : World) (t u ty e : TypeId) (i : TypeInfo) (ht : P.underlying t = some (.slice e)) (hu : P.underlying u = some .string) (hi : P.info? e = some i) (hz : i.zero = some (.int .u8 0))
    (hsize : i.size = 1) (hby : i.bytes = 1) {v : Value} {n : Nat} {xs : List Value} (hown : Own w e 1 v n xs) (s : ByteArray) (hbytes : n + s.size ≤ 140737488355328) :
    ∃ v' w', (Builtin.append_ #[t, u] ty #[v, .string s]).run P w = .ok v' w' ∧ Own w' e 1 v' (n + s.size) (xs ++ strCells s) ∧ w.grownBy w' v.ownBlock ∧
      (v'.ownBlock = v.ownBlock ∨ v'.ownBlock = some w.heap.size) := by
  have h63 : n + s.size ≤ maxLen := by unfold maxLen; omega
  have hxl : xs.length = n := by simpa using hown.1
  have hlen : (xs ++ strCells s).length = (n + s.size) * 1 := by rw [List.length_append, hxl, strCells_length, Nat.mul_one]
  by_cases hm : s.size = 0
  · have hn : strCells s = [] := List.eq_nil_of_length_eq_zero (by rw [strCells_length]; exact hm)
    have hf := run_firstCells_string (P := P) w 1 s
    rw [hm] at hf
    refine ⟨v, w, ?_, by rw [hm, hn]; simpa using hown, ⟨rfl, rfl, rfl, Nat.le_refl _, fun _ _ _ => rfl⟩, .inl rfl⟩
    rcases hown.2 with ⟨rfl, rfl⟩ | ⟨g, cap, cur, rfl, hg, hnc, hcm, hcs, htake⟩
    · simp [Builtin.append_, run_underlying ht, run_underlying hu, sizeOf, typeInfo, hi, hsize, Builtin.lenOf, hm, hf]
    · simp [Builtin.append_, run_underlying ht, run_underlying hu, sizeOf, typeInfo, hi, hsize, Builtin.lenOf, hm, hf, hnc, hn, storeCells]
  have grown : ∀ (old : Nat), old < n + s.size → ∀ (row : Option Nat),
      Own (w.drew.alloc (.cells (xs.toArray ++ (strCells s).toArray ++ Builtin.zeroCells (Value.int .u8 0).cells (grownCap w (n + s.size) old e - (n + s.size))) e)) e 1
        (.slice (some ⟨w.heap.size, 0, none⟩) (n + s.size) (grownCap w (n + s.size) old e)) (n + s.size) (xs ++ strCells s) ∧
      w.grownBy (w.drew.alloc (.cells (xs.toArray ++ (strCells s).toArray ++ Builtin.zeroCells (Value.int .u8 0).cells (grownCap w (n + s.size) old e - (n + s.size))) e)) row := by
    intro old ho row
    have hge := grownCap_ge w (n + s.size) old e
    have hcm : grownCap w (n + s.size) old e ≤ maxLen := grownCap_le_maxLen w (n + s.size) old e h63
    refine ⟨⟨hlen, .inr ⟨w.heap.size, _, _, rfl, heap_alloc_new w.drew _, hge, hcm, ?_, ?_⟩⟩, ⟨rfl, rfl, rfl, by simp, fun k hk _ => Below.heap_alloc w.drew _ k hk⟩⟩
    · have hz1 : (Value.int IntKind.u8 0).cells.size = 1 := rfl
      simp only [Array.size_append, List.size_toArray, size_zeroCells, hz1, hxl, strCells_length]
      omega
    · simp only [Array.toList_append, List.append_assoc]
      rw [← List.append_assoc, ← hlen]
      exact List.take_left
  rcases hown.2 with ⟨rfl, rfl⟩ | ⟨g, cap, cur, rfl, hg, hnc, hcm, hcs, htake⟩
  · have hx : xs = [] := List.eq_nil_of_length_eq_zero hxl
    subst hx
    have hr := run_append_nil_string (P := P) w t u ty e i (.int .u8 0) ht hu hi hz s (by omega) (by unfold maxLen at h63; omega) (by rw [hby]; omega)
    have hgr := grown 0 (by omega) (Value.ownBlock (.slice none 0 0))
    simp only [Nat.zero_add, List.nil_append, Array.empty_append] at hgr ⊢
    have e1 : (s.data.map fun b => Value.int .u8 b.toNat) = (strCells s).toArray := by
      apply Array.ext'
      simp [strCells]
    rw [e1] at hr
    exact ⟨_, _, hr, hgr.1, hgr.2, .inr rfl⟩
  · by_cases hroom : n + s.size ≤ cap
    · have hr := run_append_room_string (P := P) w t u ty e i ht hu hi hsize g n cap cur hg s hroom (by omega)
      refine ⟨_, _, hr, ⟨hlen, .inr ⟨g, cap, _, rfl, setRow_heap w g cur _ e _ hg, hroom, hcm, ?_, ?_⟩⟩, ⟨rfl, rfl, rfl, by simp, fun k _ hk => setRow_other w g k _ (fun e => hk (by simp [Value.ownBlock, e]))⟩, .inl rfl⟩
      · simp only [List.size_toArray, List.length_append, List.length_take, List.length_drop, Array.length_toList, strCells_length]
        omega
      · have ht' : cur.toList.take n = xs := by simpa using htake
        rw [ht', ← hlen]
        exact List.take_left
    · have holds : ∀ j u, xs[j]? = some u → w.cell? ((⟨g, 0, none⟩ : Addr).add j) = some u := by
        obtain ⟨_, A', c', e', _, _, h4⟩ := hown.rds
        injection e' with e1 e2 e3
        exact (h4 _ e1.symm).2
      have hr := run_append_grow_string (P := P) w t u ty e i (.int .u8 0) ht hu hi hz ⟨g, 0, none⟩ n cap xs (by rw [hsize]; simpa using hxl) holds s (by omega) (by omega) (by rw [hby]; exact growslice_fits (by omega) (by omega))
      have hgr := grown cap (by omega) (Value.ownBlock (.slice (some ⟨g, 0, none⟩) n cap))
      exact ⟨_, _, hr, hgr.1, hgr.2, .inr rfl⟩
theorem strCells_byV (s : ByteArray) : strCells s = byV s.data.toList := rfl
end

/-- append(b, s...) of a text. -/
theorem append_text (w : World) {ops : Array Oper} {rest : List Oper} {o : Oper} {a : Act} {Q : Exit → Act → World → Prop} (hgd : o.guard = none) (s x : Operand)
    (ho : o.op = .call { callee := .builtin .append, args := #[s, x], argTypes := #[22, 9] })
    {v : Value} {l : List UInt8} (hs : a.eval s = v) (hown : OwnB w v l) {t : ByteArray} (hx : a.eval x = .string t)
    (h63 : l.length + t.size ≤ 140737488355328)
    (h : ∀ A' n' c' w', Hid (n' = l.length + t.size) → OwnB w' (.slice A' n' c') (l ++ t.data.toList) → w.grownBy w' v.ownBlock → ((Value.slice A' n' c').ownBlock = v.ownBlock ∨ (Value.slice A' n' c').ownBlock = some w.heap.size) → wpList Tryd.prog ops Q rest (a.put o.dst (.slice A' n' c')) w') : wpList Tryd.prog ops Q (o :: rest) a w := by
  obtain ⟨i, hi, hz, hsize, hby⟩ := info_parts info_u8
  refine wpList_plain hgd fun K hK => ?_
  obtain ⟨v', w', hr, h2, h3, h4⟩ := run_append_text_to (P := Tryd.prog) w 22 9 o.type 5 i tyBytes tyStr hi hz hsize hby hown t h63
  unfold Oper.wp execOp
  simp only [ho, resolve, invoke, builtin, Sem.run_bind, Sem.run_pure, Result.andThen_ok, List.map_toArray, List.map_cons, List.map_nil, hs, hx, hr]
  obtain ⟨A', c', rfl, _⟩ := h2.rds.2
  refine hK _ _ (h A' _ c' w' (Lib.hid rfl) ?_ h3 h4)
  rw [strCells_byV] at h2
  unfold OwnB; rw [List.length_append, byV_append]
  exact h2

/-! ### Parts of slices. -/
theorem add_block (a : Addr) (n : Nat) : (a.add n).block = a.block := by unfold Addr.add; split <;> rfl
theorem add_add (a : Addr) (n m : Nat) : (a.add n).add m = a.add (n + m) := by
  unfold Addr.add
  by_cases h : n = 0
  · subst h; simp
  · by_cases h2 : m = 0
    · subst h2; simp
    · have h3 : ¬ (n + m = 0) := by omega
      simp only [h, h2, h3, if_false]
      congr 1
      omega

/-- The value of a part of a slice. -/
def part (A : Option Addr) (lo hi m size : Nat) : Value := sliced A lo hi m size

theorem Rds.part {w : World} {size n c : Nat} {A : Option Addr} {xs : List Value} (h : Rds w size (.slice A n c) n xs) {lo hi m : Nat} (h1 : lo ≤ hi) (h2 : hi ≤ n) (h3 : n ≤ m) (h4 : m ≤ c) :
    Rds w size (sliced A lo hi m size) (hi - lo) ((xs.drop (lo * size)).take ((hi - lo) * size)) := by
  obtain ⟨hl, A', c', e, hc, hA, hcell⟩ := h
  injection e with e1 e2 e3
  subst e1; subst e3
  refine ⟨?_, if m = lo then A else A.map (·.add (lo * size)), m - lo, rfl, by omega, ?_, ?_⟩
  · rw [List.length_take, List.length_drop, hl, Nat.min_eq_left]
    rw [← Nat.sub_mul]
    exact Nat.mul_le_mul_right _ (by omega)
  · intro hn
    have hAn : A = none := by
      split at hn
      · exact hn
      · cases A with
        | none => rfl
        | some a => cases hn
    have := hA hAn
    omega
  · intro a ha
    refine ⟨?_, fun j u hu => ?_⟩
    · split at ha
      · exact (hcell a ha).1
      · cases A with
        | none => cases ha
        | some a0 =>
          obtain rfl := Option.some.inj ha
          unfold Addr.add; split
          · exact (hcell a0 rfl).1
          · rfl
    rw [List.getElem?_take] at hu
    split at hu
    · rename_i hj
      rw [List.getElem?_drop] at hu
      have hlh : lo < hi := by
        rcases Nat.lt_or_ge lo hi with h | h
        · exact h
        · have : hi - lo = 0 := by omega
          rw [this] at hj; omega
      rw [if_neg (by omega)] at ha
      cases A with
      | none => cases ha
      | some a0 =>
        obtain rfl := Option.some.inj ha
        rw [add_add]
        exact (hcell a0 rfl).2 _ u hu
    · cases hu

theorem ownBlock_part (A : Option Addr) (lo hi m size n c : Nat) : (sliced A lo hi m size).ownBlock = (Value.slice A n c).ownBlock := by
  unfold sliced
  split
  · cases A <;> rfl
  · cases A with
    | none => rfl
    | some a => simp [Value.ownBlock, add_block]

section
variable {P : Program} {w : World} {T E : TypeId} {size : Nat} {v : Value} {n : Nat} {xs : List Value}

theorem cut_lh (hT : P.underlying T = some (.slice E)) (hz : ∀ W, (sizeOf E).run P W = .ok size W) (h : Rds w size v n xs) (lo hi : Nat) (h1 : lo ≤ hi) (h2 : hi ≤ n) :
    ∃ v', (∀ W, (Instr.slice T v (some (.int .i64 (lo : Int))) (some (.int .i64 (hi : Int))) none).run P W = .ok v' W) ∧ Rds w size v' (hi - lo) ((xs.drop (lo * size)).take ((hi - lo) * size)) ∧ v'.ownBlock = v.ownBlock := by
  have hT' : P.underlying T = some (.slice (P.elem T)) := by simp [Program.elem, hT]
  have he : P.elem T = E := by simp [Program.elem, hT]
  obtain ⟨_, A, c, rfl, hc, _⟩ := id h
  refine ⟨sliced A lo hi c size, fun W => ?_, h.part h1 h2 hc (Nat.le_refl _), ownBlock_part _ _ _ _ _ _ _⟩
  rw [run_slice_lh W T A n c hT' .i64 .i64 lo hi (by omega) (by omega) (by omega), he, hz]
  simp [Result.andThen]

theorem cut_l (hT : P.underlying T = some (.slice E)) (hz : ∀ W, (sizeOf E).run P W = .ok size W) (h : Rds w size v n xs) (lo : Nat) (h1 : lo ≤ n) :
    ∃ v', (∀ W, (Instr.slice T v (some (.int .i64 (lo : Int))) none none).run P W = .ok v' W) ∧ Rds w size v' (n - lo) (xs.drop (lo * size)) ∧ v'.ownBlock = v.ownBlock := by
  have hT' : P.underlying T = some (.slice (P.elem T)) := by simp [Program.elem, hT]
  have he : P.elem T = E := by simp [Program.elem, hT]
  obtain ⟨hl, A, c, rfl, hc, _⟩ := id h
  have hp := h.part h1 (Nat.le_refl n) hc (Nat.le_refl _)
  rw [List.take_of_length_le (by rw [List.length_drop, hl, ← Nat.sub_mul]; exact Nat.le_refl _)] at hp
  refine ⟨sliced A lo n c size, fun W => ?_, hp, ownBlock_part _ _ _ _ _ _ _⟩
  rw [run_slice_l W T A n c hT' .i64 lo (by omega) (by omega), he, hz]
  simp [Result.andThen]

theorem cut_h (hT : P.underlying T = some (.slice E)) (hz : ∀ W, (sizeOf E).run P W = .ok size W) (h : Rds w size v n xs) (hi : Nat) (h1 : hi ≤ n) :
    ∃ v', (∀ W, (Instr.slice T v none (some (.int .i64 (hi : Int))) none).run P W = .ok v' W) ∧ Rds w size v' hi (xs.take (hi * size)) ∧ v'.ownBlock = v.ownBlock := by
  have hT' : P.underlying T = some (.slice (P.elem T)) := by simp [Program.elem, hT]
  have he : P.elem T = E := by simp [Program.elem, hT]
  obtain ⟨hl, A, c, rfl, hc, _⟩ := id h
  have hp := h.part (Nat.zero_le hi) h1 hc (Nat.le_refl _)
  simp only [Nat.zero_mul, List.drop_zero, Nat.sub_zero] at hp
  refine ⟨sliced A 0 hi c size, fun W => ?_, hp, ownBlock_part _ _ _ _ _ _ _⟩
  rw [run_slice_h W T A n c hT' .i64 hi (by omega) (by omega), he, hz]
  simp [Result.andThen]
end

theorem sizeU8 (W : World) : (sizeOf 5).run Tryd.prog W = .ok 1 W := by kernel_rfl
section
variable {w : World} {v : Value} {l : List UInt8}
theorem RdB.cut_lh (h : RdB w v l) (lo hi : Nat) (h1 : lo ≤ hi) (h2 : hi ≤ l.length) :
    ∃ v', (∀ W, (Instr.slice 22 v (some (.int .i64 (lo : Int))) (some (.int .i64 (hi : Int))) none).run Tryd.prog W = .ok v' W) ∧ RdB w v' ((l.drop lo).take (hi - lo)) ∧ v'.ownBlock = v.ownBlock := by
  obtain ⟨v', h3, h4, h5⟩ := Proofs.YtebkmpgmcldeoaaDoor.cut_lh tyBytes sizeU8 h lo hi h1 h2
  refine ⟨v', h3, ?_, h5⟩
  simp only [Nat.mul_one] at h4
  unfold RdB
  rw [List.length_take, List.length_drop, Nat.min_eq_left (by omega), byV_take, byV_drop]
  exact h4
theorem RdB.cut_l (h : RdB w v l) (lo : Nat) (h1 : lo ≤ l.length) :
    ∃ v', (∀ W, (Instr.slice 22 v (some (.int .i64 (lo : Int))) none none).run Tryd.prog W = .ok v' W) ∧ RdB w v' (l.drop lo) ∧ v'.ownBlock = v.ownBlock := by
  obtain ⟨v', h3, h4, h5⟩ := Proofs.YtebkmpgmcldeoaaDoor.cut_l tyBytes sizeU8 h lo h1
  refine ⟨v', h3, ?_, h5⟩
  simp only [Nat.mul_one] at h4
  unfold RdB
  rw [List.length_drop, byV_drop]
  exact h4
theorem RdB.cut_h (h : RdB w v l) (hi : Nat) (h1 : hi ≤ l.length) :
    ∃ v', (∀ W, (Instr.slice 22 v none (some (.int .i64 (hi : Int))) none).run Tryd.prog W = .ok v' W) ∧ RdB w v' (l.take hi) ∧ v'.ownBlock = v.ownBlock := by
  obtain ⟨v', h3, h4, h5⟩ := Proofs.YtebkmpgmcldeoaaDoor.cut_h tyBytes sizeU8 h hi h1
  refine ⟨v', h3, ?_, h5⟩
  simp only [Nat.mul_one] at h4
  unfold RdB
  rw [List.length_take, Nat.min_eq_left (by omega), byV_take]
  exact h4
end

theorem RdB.at {w : World} {A : Option Addr} {n c : Nat} {l : List UInt8} (h : Rds w 1 (.slice A n c) n (byV l)) {k : Nat} (hk : k < l.length) : ∃ a, A = some a ∧ w.cell? (a.add k) = some (.int .u8 (l.getD k 0).toNat) := by
  obtain ⟨hl, A', c', e, hc, hA, hcell⟩ := h
  injection e with e1 e2 e3
  subst e1
  cases A with
  | none =>
    have := (hA rfl).1
    rw [byV_length] at hl; omega
  | some a =>
    refine ⟨a, rfl, (hcell a rfl).2 k _ ?_⟩
    rw [byV_get]
    simp [List.getD, hk]

/-- string(b) of bytes. -/
theorem conv_text {w : World} {v : Value} {l : List UInt8} (h : RdB w v l) : (convert 22 9 v).run Tryd.prog w = .ok (.string ⟨l.toArray⟩) w := by
  obtain ⟨hl, A, c, rfl, hc, hA, hcell⟩ := h
  cases A with
  | none =>
    have h0 : l = [] := List.eq_nil_of_length_eq_zero (hA rfl).1
    subst h0
    exact run_convert_bytes_nil (P := Tryd.prog) w 22 5 tyBytes tyU8 0 c 9 tyStr
  | some a =>
    obtain ⟨hs, hcell⟩ := hcell a rfl
    obtain ⟨b, o, sp⟩ := a
    simp only at hs
    subst hs
    have := run_convert_bytes_arg (P := Tryd.prog) w 22 5 tyBytes tyU8 b o l.length c (l.map fun x => (x.toNat : Int)) (by simp) (fun i hi => by
      have h1 := hcell i (.int .u8 ((l.getD i 0).toNat : Nat)) (by rw [byV_get]; simp [List.getD, hi])
      have h2 : (⟨b, o, none⟩ : Addr).add i = ⟨b, o + i, none⟩ := by unfold Addr.add; split <;> simp_all
      rw [h2] at h1
      simpa [List.getD, hi] using h1) 9 tyStr
    have e : strOfNums (l.map fun x => (x.toNat : Int)) = ⟨l.toArray⟩ := by
      unfold strOfNums
      have : (l.map fun x => (x.toNat : Int)).map (fun n => UInt8.ofNat n.toNat) = l := by
        rw [List.map_map]
        conv => rhs; rw [← List.map_id l]
        apply List.map_congr_left
        intro x _
        simp
      rw [this]
    rw [e] at this
    exact this

end Go.Proofs.YtebkmpgmcldeoaaDoor
