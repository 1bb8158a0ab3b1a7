/- slices.SortStableFunc: the plain law. -/
import Derived.Test.YtebkmpgmcldeoaaDoorX
namespace Go.Proofs.YtebkmpgmcldeoaaDoor
open Go Go.Proofs Go.RowKit Go.Sort
set_option linter.unusedVariables false
variable {P : Program} {k : Nat} {α : Type} [Inhabited α]

def symS (lt : α → α → Bool) (a m b : Nat) (d : Array α) : Nat :=
  bsearch (fun c => !lt d[(a + b) / 2 + m - 1 - c]! d[c]!) (b - a) (if (a + b) / 2 < m then (a + b) / 2 + m - b else a) (if (a + b) / 2 < m then (a + b) / 2 else m)
def symM (lt : α → α → Bool) : Nat → Nat → Nat → Nat → Array α → Array α
  | 0, _, _, _, d => d
  | f + 1, a, m, b, d =>
    if m = a + 1 then upR (bsearch (fun h => lt d[h]! d[a]!) (b - (a + 1)) (a + 1) b - 1) a d
    else if b = m + 1 then downR (bsearch (fun h => !lt d[m]! d[h]!) (m - a) a m) m d
    else
      let mid := (a + b) / 2
      let s := symS lt a m b d
      let e := mid + m - s
      let d1 := if s < m ∧ m < e then rotR s m e d else d
      let d2 := if a < s ∧ s < mid then symM lt f a s mid d1 else d1
      if mid < e ∧ e < b then symM lt f mid e b d2 else d2

theorem upR_size (y x : Nat) (d : Array α) : (upR y x d).size = d.size := by
  fun_induction upR y x d with
  | case1 x d h ih => rw [ih, size_swp]
  | case2 x d h => rfl
theorem downR_size (y : Nat) : ∀ (x : Nat) (d : Array α), (downR y x d).size = d.size
  | 0, d => rfl
  | x + 1, d => by unfold downR; split; · rw [downR_size, size_swp]
                   rfl
theorem symM_size (lt : α → α → Bool) : ∀ (f a m b : Nat) (d : Array α), (symM lt f a m b d).size = d.size
  | 0, _, _, _, d => rfl
  | f + 1, a, m, b, d => by
    unfold symM
    split
    · exact upR_size ..
    · split
      · exact downR_size ..
      · simp only
        have hif : ∀ (c : Prop) [Decidable c] (x y : Array α), x.size = d.size → y.size = d.size → (if c then x else y).size = d.size := fun c _ x y hx hy => by split <;> assumption
        have h1 := hif (symS lt a m b d < m ∧ m < (a + b) / 2 + m - symS lt a m b d) _ _ (rotR_size (symS lt a m b d) m ((a + b) / 2 + m - symS lt a m b d) d) rfl
        have h2 := hif (a < symS lt a m b d ∧ symS lt a m b d < (a + b) / 2) _ _ ((symM_size lt f a (symS lt a m b d) ((a + b) / 2) _).trans h1) h1
        exact hif _ _ _ ((symM_size lt f _ _ b _).trans h2) h2

theorem bsearch_in (p : Nat → Bool) : ∀ (f i j : Nat), i ≤ j → i ≤ bsearch p f i j ∧ bsearch p f i j ≤ j
  | 0, i, j, h => ⟨Nat.le_refl _, h⟩
  | f + 1, i, j, h => by
    unfold bsearch
    split
    · split
      · have := bsearch_in p f ((i + j) / 2 + 1) j (by omega); omega
      · have := bsearch_in p f i ((i + j) / 2) (by omega); omega
    · omega


theorem swapR_perm (lo hi a b n i : Nat) (d : Array α) (h1 : lo ≤ a) (h2 : a + n ≤ hi) (h3 : lo ≤ b) (h4 : b + n ≤ hi) (h5 : hi ≤ d.size) : PermIn lo hi d (swapR a b n i d) := by
  fun_induction swapR a b n i d with
  | case1 i d h ih => exact permIn_trans _ _ _ _ _ (swp_permIn d lo hi (a + i) (b + i) (by omega) (by omega) (by omega) (by omega) h5) (ih (by rw [size_swp]; exact h5))
  | case2 i d h => exact permIn_refl _ _ _
theorem upR_perm (lo hi y x : Nat) (d : Array α) (h1 : lo ≤ x) (h2 : y < hi) (h3 : hi ≤ d.size) : PermIn lo hi d (upR y x d) := by
  fun_induction upR y x d with
  | case1 x d h ih => exact permIn_trans _ _ _ _ _ (swp_permIn d lo hi x (x + 1) (by omega) (by omega) (by omega) (by omega) h3) (ih (by omega) (by rw [size_swp]; exact h3))
  | case2 x d h => exact permIn_refl _ _ _
theorem downR_perm (lo hi y : Nat) (h1 : lo ≤ y) : ∀ (x : Nat) (d : Array α), x < hi → hi ≤ d.size → PermIn lo hi d (downR y x d)
  | 0, d, _, _ => permIn_refl _ _ _
  | x + 1, d, h2, h3 => by
    unfold downR
    split
    · exact permIn_trans _ _ _ _ _ (swp_permIn d lo hi (x + 1) x (by omega) (by omega) (by omega) (by omega) h3) (downR_perm lo hi y h1 x _ (by omega) (by rw [size_swp]; exact h3))
    · exact permIn_refl _ _ _
theorem rotLoop_perm (lo hi m : Nat) : ∀ (f i j : Nat) (d : Array α), lo + i ≤ m → m + j ≤ hi → hi ≤ d.size → PermIn lo hi d (rotLoop m f i j d)
  | 0, _, _, _, _, _, _ => permIn_refl _ _ _
  | f + 1, i, j, d, h1, h2, h3 => by
    unfold rotLoop
    split
    · exact swapR_perm lo hi _ _ _ _ d (by omega) (by omega) (by omega) (by omega) h3
    · split
      · exact permIn_trans _ _ _ _ _ (swapR_perm lo hi _ _ _ _ d (by omega) (by omega) (by omega) (by omega) h3) (rotLoop_perm lo hi m f _ _ _ (by omega) (by omega) (by rw [swapR_size]; exact h3))
      · exact permIn_trans _ _ _ _ _ (swapR_perm lo hi _ _ _ _ d (by omega) (by omega) (by omega) (by omega) h3) (rotLoop_perm lo hi m f _ _ _ (by omega) (by omega) (by rw [swapR_size]; exact h3))
theorem rotR_perm (lo hi a m b : Nat) (d : Array α) (h0 : lo ≤ a) (h1 : a ≤ m) (h2 : m ≤ b) (h4 : b ≤ hi) (h3 : hi ≤ d.size) : PermIn lo hi d (rotR a m b d) :=
  rotLoop_perm lo hi m _ _ _ d (by omega) (by omega) h3

theorem symS_in (lt : α → α → Bool) (a m b : Nat) (d : Array α) (h1 : a + 1 < m) (h2 : m + 1 < b) :
    a ≤ symS lt a m b d ∧ symS lt a m b d ≤ m ∧ symS lt a m b d ≤ (a + b) / 2 ∧ m ≤ (a + b) / 2 + m - symS lt a m b d ∧ (a + b) / 2 ≤ (a + b) / 2 + m - symS lt a m b d ∧ (a + b) / 2 + m - symS lt a m b d ≤ b := by
  unfold symS
  split
  · have := bsearch_in (fun c => !lt d[(a + b) / 2 + m - 1 - c]! d[c]!) (b - a) ((a + b) / 2 + m - b) ((a + b) / 2) (by omega)
    omega
  · have := bsearch_in (fun c => !lt d[(a + b) / 2 + m - 1 - c]! d[c]!) (b - a) a m (by omega)
    omega

theorem permIn_size {a b : Nat} {d d' : Array α} (h : PermIn a b d d') : d'.size = d.size := h.1
theorem permIn_if {a b : Nat} {d x y : Array α} (c : Prop) [Decidable c] (hx : c → PermIn a b d x) (hy : PermIn a b d y) : PermIn a b d (if c then x else y) := by
  split
  · exact hx ‹_›
  · exact hy

theorem symM_perm (lt : α → α → Bool) : ∀ (f a m b : Nat) (d : Array α), a < m → m < b → b ≤ d.size → PermIn a b d (symM lt f a m b d)
  | 0, _, _, _, _, _, _, _ => permIn_refl _ _ _
  | f + 1, a, m, b, d, h1, h2, h3 => by
    unfold symM
    split
    · have := bsearch_in (fun h => lt d[h]! d[a]!) (b - (a + 1)) (a + 1) b (by omega)
      exact upR_perm a b _ _ d (by omega) (by omega) h3
    · split
      · have := bsearch_in (fun h => !lt d[m]! d[h]!) (m - a) a m (by omega)
        exact downR_perm a b _ (by omega) _ d (by omega) h3
      · have hs := symS_in lt a m b d (by omega) (by omega)
        simp only
        have p1 : PermIn a b d (if symS lt a m b d < m ∧ m < (a + b) / 2 + m - symS lt a m b d then rotR (symS lt a m b d) m ((a + b) / 2 + m - symS lt a m b d) d else d) :=
          permIn_if _ (fun _ => rotR_perm a b _ _ _ d (by omega) (by omega) (by omega) (by omega) h3) (permIn_refl _ _ _)
        generalize (if symS lt a m b d < m ∧ m < (a + b) / 2 + m - symS lt a m b d then rotR (symS lt a m b d) m ((a + b) / 2 + m - symS lt a m b d) d else d) = d1 at p1 ⊢
        have s1 := permIn_size p1
        have p2 : PermIn a b d (if a < symS lt a m b d ∧ symS lt a m b d < (a + b) / 2 then symM lt f a (symS lt a m b d) ((a + b) / 2) d1 else d1) :=
          permIn_if _ (fun h => permIn_trans _ _ _ _ _ p1 (permIn_mono _ _ _ _ _ _ (Nat.le_refl _) (by omega) (by omega) (symM_perm lt f _ _ _ d1 h.1 h.2 (by omega)))) p1
        generalize (if a < symS lt a m b d ∧ symS lt a m b d < (a + b) / 2 then symM lt f a (symS lt a m b d) ((a + b) / 2) d1 else d1) = d2 at p2 ⊢
        have s2 := permIn_size p2
        exact permIn_if _ (fun h => permIn_trans _ _ _ _ _ p2 (permIn_mono _ _ _ _ _ _ (by omega) (Nat.le_refl _) (by omega) (symM_perm lt f _ _ _ d2 h.1 h.2 (by omega)))) p2

/-- blocks of twenty, each sorted -/
def blocksR (lt : α → α → Bool) (n : Nat) : Nat → Nat → Array α → Array α
  | 0, _, d => d
  | f + 1, a, d => if a + 20 ≤ n then blocksR lt n f (a + 20) (insertionSort lt d a (a + 20)) else insertionSort lt d a n
/-- neighbours of bs elements each are merged -/
def passR (lt : α → α → Bool) (n bs : Nat) : Nat → Nat → Array α → Array α
  | 0, _, d => d
  | f + 1, a, d => if a + 2 * bs ≤ n then passR lt n bs f (a + 2 * bs) (symM lt n a (a + bs) (a + 2 * bs) d) else if a + bs < n then symM lt n a (a + bs) n d else d
def mergeR (lt : α → α → Bool) (n : Nat) : Nat → Nat → Array α → Array α
  | 0, _, d => d
  | f + 1, bs, d => if bs < n then mergeR lt n f (bs * 2) (passR lt n bs (n + 1) 0 d) else d
def stableR (lt : α → α → Bool) (d : Array α) : Array α := mergeR lt d.size (d.size + 1) 20 (blocksR lt d.size (d.size + 1) 0 d)

theorem insertionSort_size (lt : α → α → Bool) (d : Array α) (a b : Nat) : (insertionSort lt d a b).size = d.size := by
  have inner : ∀ (a j : Nat) (d : Array α), (insInner lt a j d).size = d.size := by
    intro a j
    induction j with
    | zero => intro d; rfl
    | succ j ih =>
      intro d
      unfold insInner
      split
      · rw [ih, size_swp]
      · rfl
  have outer : ∀ (k a b i : Nat) (d : Array α), b - i ≤ k → (insOuter lt a b i d).size = d.size := by
    intro k
    induction k with
    | zero => intro a b i d h; unfold insOuter; rw [if_neg (by omega)]
    | succ k ih =>
      intro a b i d h
      unfold insOuter
      split
      · rw [ih _ _ _ _ (by omega), inner]
      · rfl
  exact outer _ a b (a + 1) d (Nat.le_refl _)

theorem blocksR_perm {lt : α → α → Bool} (hS : SWO lt) (n : Nat) : ∀ (f a : Nat) (d : Array α), a ≤ n → n ≤ d.size → PermIn 0 n d (blocksR lt n f a d)
  | 0, _, _, _, _ => permIn_refl _ _ _
  | f + 1, a, d, h1, h2 => by
    unfold blocksR
    split
    · have p := (insertionSort_holds hS d a (a + 20) (by omega) (by omega)).1
      exact permIn_trans _ _ _ _ _ (permIn_mono _ _ _ _ _ _ (Nat.zero_le _) (by omega) h2 p) (blocksR_perm hS n f _ _ (by omega) (by rw [insertionSort_size]; exact h2))
    · exact permIn_mono _ _ _ _ _ _ (Nat.zero_le _) (Nat.le_refl _) h2 (insertionSort_holds hS d a n h1 h2).1
theorem passR_perm (lt : α → α → Bool) (n bs : Nat) (hb : 0 < bs) : ∀ (f a : Nat) (d : Array α), n ≤ d.size → PermIn 0 n d (passR lt n bs f a d)
  | 0, _, _, _ => permIn_refl _ _ _
  | f + 1, a, d, h2 => by
    unfold passR
    split
    · have p := symM_perm lt n a (a + bs) (a + 2 * bs) d (by omega) (by omega) (by omega)
      exact permIn_trans _ _ _ _ _ (permIn_mono _ _ _ _ _ _ (Nat.zero_le _) (by omega) h2 p) (passR_perm lt n bs hb f _ _ (by rw [symM_size]; exact h2))
    · split
      · exact permIn_mono _ _ _ _ _ _ (Nat.zero_le _) (Nat.le_refl _) h2 (symM_perm lt n a (a + bs) n d (by omega) (by omega) h2)
      · exact permIn_refl _ _ _
theorem passR_size (lt : α → α → Bool) (n bs : Nat) (hb : 0 < bs) (f a : Nat) (d : Array α) (h : n ≤ d.size) : (passR lt n bs f a d).size = d.size := permIn_size (passR_perm lt n bs hb f a d h)
theorem mergeR_perm (lt : α → α → Bool) (n : Nat) : ∀ (f bs : Nat) (d : Array α), 0 < bs → n ≤ d.size → PermIn 0 n d (mergeR lt n f bs d)
  | 0, _, _, _, _ => permIn_refl _ _ _
  | f + 1, bs, d, h1, h2 => by
    unfold mergeR
    split
    · exact permIn_trans _ _ _ _ _ (passR_perm lt n bs h1 _ 0 d h2) (mergeR_perm lt n f _ _ (by omega) (by rw [passR_size lt n bs h1 _ 0 d h2]; exact h2))
    · exact permIn_refl _ _ _
theorem stableR_perm {lt : α → α → Bool} (hS : SWO lt) (d : Array α) : PermIn 0 d.size d (stableR lt d) := by
  have p := blocksR_perm hS d.size (d.size + 1) 0 d (Nat.zero_le _) (Nat.le_refl _)
  exact permIn_trans _ _ _ _ _ p (mergeR_perm lt d.size _ 20 _ (by omega) (by rw [permIn_size p]; exact Nat.le_refl _))
theorem stableR_list {lt : α → α → Bool} (hS : SWO lt) (d : Array α) : (stableR lt d).toList.Perm d.toList := by
  have p := stableR_perm hS d
  have h := p.2.2
  have e1 : d.extract 0 d.size = d := by simp
  have e2 : (stableR lt d).extract 0 d.size = stableR lt d := by rw [← permIn_size p]; simp
  rwa [e1, e2] at h

end Go.Proofs.YtebkmpgmcldeoaaDoor
