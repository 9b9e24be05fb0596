/- The plain binary heap on an array: sifting up, sifting down, removing the first: what each leaves is a permutation, is in heap order, and the first is before none of the others. No program in sight. -/
namespace Go.Proofs.Ytjdkaagkaambkaa
namespace Hp

variable {α : Type} [Inhabited α]

def swp (xs : Array α) (i j : Nat) : Array α := (xs.setIfInBounds i xs[j]!).setIfInBounds j xs[i]!

@[simp] theorem swp_size (xs : Array α) (i j : Nat) : (swp xs i j).size = xs.size := by simp [swp]

theorem gp (xs : Array α) (k : Nat) (h : k < xs.size) : xs[k]! = xs[k] := getElem!_pos xs k h

theorem get_set (xs : Array α) (i k : Nat) (v : α) (hk : k < xs.size) : (xs.setIfInBounds i v)[k]! = if k = i then v else xs[k]! := by
  rw [gp _ _ (by simpa using hk), gp _ _ hk, Array.getElem_setIfInBounds (by simpa using hk)]
  by_cases h : i = k
  · rw [if_pos h, if_pos h.symm]
  · rw [if_neg h, if_neg (Ne.symm h)]

theorem swp_get (xs : Array α) (i j k : Nat) (hk : k < xs.size) : (swp xs i j)[k]! = if k = j then xs[i]! else if k = i then xs[j]! else xs[k]! := by
  unfold swp
  rw [get_set _ _ _ _ (by simpa using hk), get_set _ _ _ _ hk]

theorem swp_perm (xs : Array α) (i j : Nat) (hi : i < xs.size) (hj : j < xs.size) : (swp xs i j).toList.Perm xs.toList := by
  have h : swp xs i j = xs.swap i j hi hj := by
    unfold swp
    apply Array.ext
    · simp
    · intro k h1 h2
      simp only [Array.size_setIfInBounds] at h1
      rw [Array.getElem_swap, Array.getElem_setIfInBounds (by simpa using h1), Array.getElem_setIfInBounds h1]
      rw [gp _ _ hi, gp _ _ hj]
      by_cases e1 : j = k
      · subst e1
        by_cases e2 : i = j
        · subst e2; simp
        · simp [Ne.symm e2]
      · by_cases e2 : i = k
        · subst e2; simp [e1]
        · simp [e1, e2, Ne.symm e1, Ne.symm e2]
  rw [h]
  exact (Array.swap_perm hi hj).toList

/-- 'lt' is a strict weak order. -/
structure SWO (lt : α → α → Bool) : Prop where
  asymm : ∀ a b, lt a b = true → lt b a = false
  trans : ∀ a b c, lt b a = false → lt c b = false → lt c a = false

variable (lt : α → α → Bool)

def upM (i : Nat) (xs : Array α) : Array α :=
  if _h : 0 < i ∧ lt xs[i]! xs[(i - 1) / 2]! = true then upM ((i - 1) / 2) (swp xs i ((i - 1) / 2)) else xs
termination_by i
decreasing_by omega

def childM (xs : Array α) (i : Nat) : Nat := if 2 * i + 1 + 1 < xs.size ∧ lt xs[2 * i + 1 + 1]! xs[2 * i + 1]! = true then 2 * i + 1 + 1 else 2 * i + 1

theorem childM_gt (xs : Array α) (i : Nat) : i < childM lt xs i := by unfold childM; split <;> omega
theorem childM_lt (xs : Array α) (i : Nat) (h : 2 * i + 1 < xs.size) : childM lt xs i < xs.size := by unfold childM; split <;> omega
theorem childM_par (xs : Array α) (i : Nat) : (childM lt xs i - 1) / 2 = i := by unfold childM; split <;> omega

def downM (i : Nat) (xs : Array α) : Array α :=
  if _h : 2 * i + 1 < xs.size then
    if lt xs[childM lt xs i]! xs[i]! = true then downM (childM lt xs i) (swp xs i (childM lt xs i)) else xs
  else xs
termination_by xs.size - i
decreasing_by
  have := childM_gt lt xs i
  simp
  omega

theorem upM_go (i : Nat) (xs : Array α) (h0 : 0 < i) (h : lt xs[i]! xs[(i - 1) / 2]! = true) : upM lt i xs = upM lt ((i - 1) / 2) (swp xs i ((i - 1) / 2)) := by
  rw [upM]; rw [dif_pos ⟨h0, h⟩]
theorem upM_stop (i : Nat) (xs : Array α) (h : ¬ (0 < i ∧ lt xs[i]! xs[(i - 1) / 2]! = true)) : upM lt i xs = xs := by
  rw [upM]; rw [dif_neg h]
theorem downM_end (i : Nat) (xs : Array α) (h : ¬ 2 * i + 1 < xs.size) : downM lt i xs = xs := by
  rw [downM]; rw [dif_neg h]
theorem downM_stop (i : Nat) (xs : Array α) (h : lt xs[childM lt xs i]! xs[i]! = false) : downM lt i xs = xs := by
  rw [downM]; split
  · simp [h]
  · rfl
theorem downM_go (i : Nat) (xs : Array α) (h0 : 2 * i + 1 < xs.size) (h : lt xs[childM lt xs i]! xs[i]! = true) : downM lt i xs = downM lt (childM lt xs i) (swp xs i (childM lt xs i)) := by
  rw [downM]; rw [dif_pos h0, if_pos h]

/-- Up to which the parent's are before none of the children. -/
def Ord (xs : Array α) : Prop := ∀ k, 0 < k → k < xs.size → lt xs[k]! xs[(k - 1) / 2]! = false

def UpInv (i : Nat) (xs : Array α) : Prop :=
  (∀ k, 0 < k → k < xs.size → k ≠ i → lt xs[k]! xs[(k - 1) / 2]! = false) ∧
  (∀ k, 0 < k → k < xs.size → (k - 1) / 2 = i → 0 < i → lt xs[k]! xs[(i - 1) / 2]! = false)

variable {lt}

theorem upM_size (n : Nat) : ∀ (i : Nat) (xs : Array α), i ≤ n → (upM lt i xs).size = xs.size := by
  induction n with
  | zero => intro i xs h; rw [upM_stop _ _ _ (by omega)]
  | succ n ih =>
    intro i xs h
    by_cases hc : 0 < i ∧ lt xs[i]! xs[(i - 1) / 2]! = true
    · rw [upM_go _ _ _ hc.1 hc.2, ih _ _ (by omega)]; simp
    · rw [upM_stop _ _ _ hc]

theorem upM_perm (n : Nat) : ∀ (i : Nat) (xs : Array α), i ≤ n → i < xs.size → (upM lt i xs).toList.Perm xs.toList := by
  induction n with
  | zero => intro i xs h _; rw [upM_stop _ _ _ (by omega)]
  | succ n ih =>
    intro i xs h hi
    by_cases hc : 0 < i ∧ lt xs[i]! xs[(i - 1) / 2]! = true
    · rw [upM_go _ _ _ hc.1 hc.2]
      exact (ih _ _ (by omega) (by simp; omega)).trans (swp_perm xs _ _ hi (by omega))
    · rw [upM_stop _ _ _ hc]

theorem upM_ord (hs : SWO lt) (n : Nat) : ∀ (i : Nat) (xs : Array α), i ≤ n → i < xs.size → UpInv lt i xs → Ord lt (upM lt i xs) := by
  induction n with
  | zero =>
    intro i xs h _ hI
    rw [upM_stop _ _ _ (by omega)]
    intro k hk hk'
    exact hI.1 k hk hk' (by omega)
  | succ n ih =>
    intro i xs h hi hI
    by_cases hc : 0 < i ∧ lt xs[i]! xs[(i - 1) / 2]! = true
    · rw [upM_go _ _ _ hc.1 hc.2]
      refine ih _ _ (by omega) (by simp; omega) ?_
      obtain ⟨h0, hlt⟩ := hc
      have hp : (i - 1) / 2 < i := by omega
      generalize hpe : (i - 1) / 2 = p at *
      refine ⟨fun k hk hks hkp => ?_, fun k hk hks hkp h0p => ?_⟩
      · simp only [swp_size] at hks
        rw [swp_get _ _ _ _ hks, swp_get _ _ _ _ (by omega), if_neg hkp]
        by_cases e1 : k = i
        · subst e1
          rw [if_pos rfl, hpe, if_pos rfl]
          exact hs.asymm _ _ hlt
        · rw [if_neg e1]
          by_cases e2 : (k - 1) / 2 = p
          · rw [if_pos e2]
            have h1 := hI.1 k hk hks e1
            rw [e2] at h1
            exact hs.trans _ _ _ (hs.asymm _ _ hlt) h1
          · rw [if_neg e2]
            by_cases e3 : (k - 1) / 2 = i
            · rw [if_pos e3]
              have := hI.2 k hk hks e3 h0
              rwa [hpe] at this
            · rw [if_neg e3]
              exact hI.1 k hk hks e1
      · simp only [swp_size] at hks
        rw [swp_get _ _ _ _ hks, swp_get _ _ _ _ (by omega), if_neg (by omega : ¬ k = p), if_neg (by omega : ¬ (p - 1) / 2 = p), if_neg (by omega : ¬ (p - 1) / 2 = i)]
        have h1 := hI.1 p h0p (by omega) (by omega)
        by_cases e1 : k = i
        · subst e1
          rw [if_pos rfl]
          exact h1
        · rw [if_neg e1]
          have h2 := hI.1 k hk hks e1
          rw [hkp] at h2
          exact hs.trans _ _ _ h1 h2
    · rw [upM_stop _ _ _ hc]
      intro k hk hk'
      by_cases e : k = i
      · subst e
        simpa [hk] using hc
      · exact hI.1 k hk hk' e

/-- What stands behind 'append': heap order everywhere but at the last. -/
theorem upInv_push (xs : Array α) (x : α) (h : Ord lt xs) : UpInv lt xs.size (xs.push x) := by
  refine ⟨fun k hk hks hne => ?_, fun k hk hks hkp h0 => ?_⟩
  · simp only [Array.size_push] at hks
    have h1 : k < xs.size := by omega
    rw [gp _ _ (by simp; omega), gp _ _ (by simp; omega), Array.getElem_push_lt h1, Array.getElem_push_lt (by omega)]
    have := h k hk h1
    rwa [gp _ _ h1, gp _ _ (by omega)] at this
  · simp only [Array.size_push] at hks
    omega

def DownInv (lt : α → α → Bool) (m i : Nat) (xs : Array α) : Prop :=
  (∀ k, 0 < k → k < xs.size → m ≤ (k - 1) / 2 → (k - 1) / 2 ≠ i → lt xs[k]! xs[(k - 1) / 2]! = false) ∧
  (∀ k, 0 < k → k < xs.size → (k - 1) / 2 = i → 0 < i → m ≤ (i - 1) / 2 → lt xs[k]! xs[(i - 1) / 2]! = false)

def OrdFrom (lt : α → α → Bool) (m : Nat) (xs : Array α) : Prop := ∀ k, 0 < k → k < xs.size → m ≤ (k - 1) / 2 → lt xs[k]! xs[(k - 1) / 2]! = false

theorem downM_size (n : Nat) : ∀ (i : Nat) (xs : Array α), xs.size - i ≤ n → (downM lt i xs).size = xs.size := by
  induction n with
  | zero => intro i xs h; rw [downM_end _ _ _ (by omega)]
  | succ n ih =>
    intro i xs h
    by_cases h0 : 2 * i + 1 < xs.size
    · cases hc : lt xs[childM lt xs i]! xs[i]! with
      | true =>
        have := childM_gt lt xs i
        rw [downM_go _ _ _ h0 hc, ih _ _ (by simp; omega)]; simp
      | false => rw [downM_stop _ _ _ hc]
    · rw [downM_end _ _ _ h0]

theorem downM_perm (n : Nat) : ∀ (i : Nat) (xs : Array α), xs.size - i ≤ n → (downM lt i xs).toList.Perm xs.toList := by
  induction n with
  | zero => intro i xs h; rw [downM_end _ _ _ (by omega)]
  | succ n ih =>
    intro i xs h
    by_cases h0 : 2 * i + 1 < xs.size
    · cases hc : lt xs[childM lt xs i]! xs[i]! with
      | true =>
        have := childM_gt lt xs i
        rw [downM_go _ _ _ h0 hc]
        exact (ih _ _ (by simp; omega)).trans (swp_perm _ _ _ (by omega) (childM_lt lt xs i h0))
      | false => rw [downM_stop _ _ _ hc]
    · rw [downM_end _ _ _ h0]

/-- The chosen child is after none of its siblings. -/
theorem child_le (hs : SWO lt) (xs : Array α) (i k : Nat) (hk : k < xs.size) (h0 : 0 < k) (hp : (k - 1) / 2 = i) : lt xs[k]! xs[childM lt xs i]! = false := by
  have irr : ∀ a, lt a a = false := fun a => by
    cases h : lt a a with
    | false => rfl
    | true => have := hs.asymm _ _ h; rw [h] at this; exact this
  unfold childM
  by_cases hc : 2 * i + 1 + 1 < xs.size ∧ lt xs[2 * i + 1 + 1]! xs[2 * i + 1]! = true
  · rw [if_pos hc]
    rcases (by omega : k = 2 * i + 1 + 1 ∨ k = 2 * i + 1) with e | e
    · subst e; exact irr _
    · subst e; exact hs.asymm _ _ hc.2
  · rw [if_neg hc]
    rcases (by omega : k = 2 * i + 1 + 1 ∨ k = 2 * i + 1) with e | e
    · subst e; simpa [hk] using hc
    · subst e; exact irr _

theorem downM_ord (hs : SWO lt) (m n : Nat) : ∀ (i : Nat) (xs : Array α), xs.size - i ≤ n → m ≤ i → DownInv lt m i xs → OrdFrom lt m (downM lt i xs) := by
  induction n with
  | zero =>
    intro i xs h hm hI
    rw [downM_end _ _ _ (by omega)]
    intro k hk hks hmk
    exact hI.1 k hk hks hmk (by omega)
  | succ n ih =>
    intro i xs h hm hI
    by_cases h0 : 2 * i + 1 < xs.size
    · cases hc : lt xs[childM lt xs i]! xs[i]! with
      | true =>
        have hg := childM_gt lt xs i
        have hl := childM_lt lt xs i h0
        have hp := childM_par lt xs i
        have hmin := child_le hs xs i
        rw [downM_go _ _ _ h0 hc]
        refine ih _ _ (by simp; omega) (by omega) ?_
        generalize childM lt xs i = c at *
        refine ⟨fun k hk hks hmk hkc => ?_, fun k hk hks hkp h0c hmc => ?_⟩
        · simp only [swp_size] at hks
          rw [swp_get _ _ _ _ hks, swp_get _ _ _ _ (by omega), if_neg hkc]
          by_cases e1 : (k - 1) / 2 = i
          · rw [if_pos e1]
            by_cases e2 : k = c
            · rw [if_pos e2]; exact hs.asymm _ _ hc
            · rw [if_neg e2, if_neg (by omega : ¬ k = i)]
              exact hmin k hks hk e1
          · rw [if_neg e1, if_neg (by rintro rfl; omega : ¬ k = c)]
            by_cases e2 : k = i
            · subst e2
              rw [if_pos rfl]
              exact hI.2 c (by omega) hl hp hk hmk
            · rw [if_neg e2]
              exact hI.1 k hk hks hmk e1
        · simp only [swp_size] at hks
          rw [swp_get _ _ _ _ hks, swp_get _ _ _ _ (by omega), hp, if_neg (by omega : ¬ i = c), if_pos rfl, if_neg (by omega : ¬ k = c), if_neg (by omega : ¬ k = i)]
          have := hI.1 k hk hks (by omega) (by omega)
          rwa [hkp] at this
      | false =>
        rw [downM_stop _ _ _ hc]
        intro k hk hks hmk
        by_cases e : (k - 1) / 2 = i
        · rw [e]
          exact hs.trans _ _ _ hc (child_le hs xs i k hks hk e)
        · exact hI.1 k hk hks hmk e
    · rw [downM_end _ _ _ h0]
      intro k hk hks hmk
      exact hI.1 k hk hks hmk (by omega)

theorem root_le (hs : SWO lt) (xs : Array α) (h : Ord lt xs) : ∀ (n k : Nat), k ≤ n → k < xs.size → lt xs[k]! xs[0]! = false := by
  intro n
  induction n with
  | zero =>
    intro k hk _
    obtain rfl : k = 0 := by omega
    cases e : lt xs[0]! xs[0]! with
    | false => rfl
    | true => have := hs.asymm _ _ e; rw [e] at this; exact this
  | succ n ih =>
    intro k hk hks
    by_cases e : k = 0
    · exact ih k (by omega) hks
    · exact hs.trans _ _ _ (ih ((k - 1) / 2) (by omega) (by omega)) (h k (by omega) hks)

/-- What Pop does to the array. -/
def popM (lt : α → α → Bool) (xs : Array α) : Array α := downM lt 0 (xs.setIfInBounds 0 xs[xs.size - 1]!).pop
/-- What Push does to the array. -/
def pushM (lt : α → α → Bool) (xs : Array α) (x : α) : Array α := upM lt xs.size (xs.push x)

theorem pushM_size (xs : Array α) (x : α) : (pushM lt xs x).size = xs.size + 1 := by
  unfold pushM; rw [upM_size xs.size _ _ (Nat.le_refl _)]; simp
theorem pushM_perm (xs : Array α) (x : α) : (pushM lt xs x).toList.Perm (xs.toList ++ [x]) := by
  unfold pushM; exact (upM_perm xs.size _ _ (Nat.le_refl _) (by simp)).trans (by simp)
theorem pushM_ord (hs : SWO lt) (xs : Array α) (x : α) (h : Ord lt xs) : Ord lt (pushM lt xs x) :=
  upM_ord hs xs.size _ _ (Nat.le_refl _) (by simp) (upInv_push xs x h)

theorem pop_get (xs : Array α) (k : Nat) (h : k + 1 < xs.size) : xs.pop[k]! = xs[k]! := by
  rw [gp _ _ (by simp; omega), gp _ _ (by omega), Array.getElem_pop]

theorem popM_size (xs : Array α) : (popM lt xs).size = xs.size - 1 := by
  unfold popM; rw [downM_size _ _ _ (Nat.le_refl _)]; simp

theorem popM_ord (hs : SWO lt) (xs : Array α) (h : Ord lt xs) : Ord lt (popM lt xs) := by
  have := downM_ord (lt := lt) hs 0 _ 0 (xs.setIfInBounds 0 xs[xs.size - 1]!).pop (Nat.le_refl _) (Nat.le_refl _) ⟨fun k hk hks _ hne => ?_, fun k _ _ _ h0 => absurd h0 (by omega)⟩
  · intro k hk hks; exact this k hk hks (Nat.zero_le _)
  · simp only [Array.size_pop, Array.size_setIfInBounds] at hks
    rw [pop_get _ _ (by simp; omega), pop_get _ _ (by simp; omega), get_set _ _ _ _ (by omega), get_set _ _ _ _ (by omega), if_neg (by omega), if_neg hne]
    exact h k hk (by omega)

theorem popM_perm (xs : Array α) (h : 0 < xs.size) : (xs[0]! :: (popM lt xs).toList).Perm xs.toList := by
  have h1 : (popM lt xs).toList.Perm (xs.setIfInBounds 0 xs[xs.size - 1]!).pop.toList := downM_perm _ _ _ (Nat.le_refl _)
  refine (h1.cons _).trans ?_
  obtain ⟨l⟩ := xs
  match l, h with
  | a :: r, _ =>
    simp only [List.size_toArray, List.length_cons, Nat.add_sub_cancel]
    by_cases hr : r = []
    · subst hr; simp
    · have hlen : 0 < r.length := List.length_pos_iff.2 hr
      have e1 : (#[] ++ (a :: r).toArray)[r.length]! = r.getLast hr := by
        rw [gp _ _ (by simp)]
        simp only [Array.empty_append, List.getElem_toArray]
        rw [List.getElem_cons, dif_neg (by omega), List.getLast_eq_getElem]
      have e2 : ((a :: r).toArray)[r.length]! = r.getLast hr := by simpa using e1
      have e3 : ((a :: r).toArray)[0]! = a := rfl
      rw [e2, e3]
      have e4 : (((a :: r).toArray.setIfInBounds 0 (r.getLast hr)).pop).toList = r.getLast hr :: r.dropLast := by
        simp only [Array.toList_pop, Array.toList_setIfInBounds, List.set_cons_zero]
        rw [List.dropLast_cons_of_ne_nil hr]
      rw [e4]
      have e5 : (r.getLast hr :: r.dropLast).Perm r := by
        have := List.dropLast_concat_getLast hr
        conv => rhs; rw [← this]
        exact (List.perm_append_singleton _ _).symm
      exact e5.cons a

theorem popM_min (hs : SWO lt) (xs : Array α) (h : Ord lt xs) : ∀ x ∈ xs.toList, lt x xs[0]! = false := by
  intro x hx
  obtain ⟨k, hk, rfl⟩ := List.getElem_of_mem hx
  have hk' : k < xs.size := by simpa using hk
  have := root_le hs xs h k k (Nat.le_refl _) hk'
  rw [gp _ _ hk'] at this
  simpa using this

/-- Popping all: the values in the order of popping. -/
def drain (lt : α → α → Bool) : Nat → Array α → List α
  | 0, _ => []
  | n + 1, xs => xs[0]! :: drain lt n (popM lt xs)

theorem drain_len (n : Nat) : ∀ xs : Array α, (drain lt n xs).length = n := by
  induction n with
  | zero => intro _; rfl
  | succ n ih => intro xs; simp [drain, ih]

theorem drain_perm (n : Nat) : ∀ xs : Array α, xs.size = n → (drain lt n xs).Perm xs.toList := by
  induction n with
  | zero => intro xs h; simp [drain, Array.eq_empty_of_size_eq_zero h]
  | succ n ih =>
    intro xs h
    exact ((ih (popM lt xs) (by rw [popM_size]; omega)).cons _).trans (popM_perm xs (by omega))

theorem drain_sorted (hs : SWO lt) (n : Nat) : ∀ xs : Array α, xs.size = n → Ord lt xs → (drain lt n xs).Pairwise (fun a b => lt b a = false) := by
  induction n with
  | zero => intro xs _ _; exact List.Pairwise.nil
  | succ n ih =>
    intro xs h ho
    refine List.Pairwise.cons (fun b hb => ?_) (ih _ (by rw [popM_size]; omega) (popM_ord hs xs ho))
    have h1 : b ∈ (popM lt xs).toList := (drain_perm n _ (by rw [popM_size]; omega)).mem_iff.1 hb
    exact popM_min hs xs ho b ((popM_perm xs (by omega)).mem_iff.1 (List.mem_cons_of_mem _ h1))

/-- Two lists in strict order with the same members are one. -/
theorem sorted_unique {β : Type} {r : β → β → Bool} (hs : ∀ a b : β, r a b = true → r b a = false) : ∀ (l m : List β), l.Perm m → l.Pairwise (fun a b => r a b = true) → m.Pairwise (fun a b => r a b = true) → l = m := by
  intro l
  induction l with
  | nil => intro m h _ _; exact (List.nil_perm.1 h).symm
  | cons a l ih =>
    intro m h hl hm
    match m with
    | [] => exact absurd (List.perm_nil.1 h) (by simp)
    | b :: m =>
      have hab : a = b := by
        have h1 : a ∈ b :: m := h.mem_iff.1 (by simp)
        have h2 : b ∈ a :: l := h.mem_iff.2 (by simp)
        rcases List.mem_cons.1 h1 with h1 | h1
        · exact h1
        · rcases List.mem_cons.1 h2 with h2 | h2
          · exact h2.symm
          · have e1 := List.rel_of_pairwise_cons hm h1
            have e2 := List.rel_of_pairwise_cons hl h2
            have := hs _ _ e1
            rw [e2] at this
            cases this
      subst hab
      rw [ih m (List.Perm.cons_inv h) hl.of_cons hm.of_cons]

/-- What Remove's loop leaves: sifting down from n - 1 to 0. -/
def heapify (lt : α → α → Bool) : Nat → Array α → Array α
  | 0, xs => xs
  | n + 1, xs => heapify lt n (downM lt n xs)

theorem heapify_size (n : Nat) : ∀ xs : Array α, (heapify lt n xs).size = xs.size := by
  induction n with
  | zero => intro _; rfl
  | succ n ih => intro xs; rw [heapify, ih, downM_size _ _ _ (Nat.le_refl _)]
theorem heapify_perm (n : Nat) : ∀ xs : Array α, (heapify lt n xs).toList.Perm xs.toList := by
  induction n with
  | zero => intro _; exact List.Perm.refl _
  | succ n ih => intro xs; exact (ih _).trans (downM_perm _ _ _ (Nat.le_refl _))
theorem heapify_ord (hs : SWO lt) (n : Nat) : ∀ xs : Array α, OrdFrom lt n xs → Ord lt (heapify lt n xs) := by
  induction n with
  | zero => intro xs h k hk hks; exact h k hk hks (Nat.zero_le _)
  | succ n ih =>
    intro xs h
    refine ih _ (downM_ord hs n _ n xs (Nat.le_refl _) (Nat.le_refl _) ⟨fun k hk hks hm hne => h k hk hks (by omega), fun k _ _ _ _ hm => by omega⟩)
theorem ordFrom_half (xs : Array α) : OrdFrom lt (xs.size / 2) xs := by
  intro k hk hks hm
  omega

end Hp
end Go.Proofs.Ytjdkaagkaambkaa
