/- The plain law of HeapPlays: a heap beside the list of its items in the order of pushing. -/
import Derived.Test.YtjdkaagkaambkaaE
namespace Go.Proofs.Ytjdkaagkaambkaa
open Go.RowKit Go.Proofs

abbrev idK : Int → Int := fun x => x
/-- The index of the first least key among the first i. -/
def fst1 (l : List (Int × Int)) : Nat → Int
  | 0 => -1
  | i + 1 => if fst1 l i < 0 ∨ l[i]!.1 < l[(fst1 l i).toNat]!.1 then i else fst1 l i
def frst (l : List (Int × Int)) : Int := fst1 l l.length

theorem fst1_range (l : List (Int × Int)) : ∀ i : Nat, -1 ≤ fst1 l i ∧ fst1 l i < i ∧ (0 < i → 0 ≤ fst1 l i) := by
  intro i
  induction i with
  | zero => simp [fst1]
  | succ i ih =>
    rw [fst1]
    by_cases h : fst1 l i < 0 ∨ l[i]!.1 < l[(fst1 l i).toNat]!.1
    · rw [if_pos h]; omega
    · rw [if_neg h]; omega
theorem fst1_least (l : List (Int × Int)) : ∀ i : Nat, ∀ j : Nat, j < i → l[(fst1 l i).toNat]!.1 ≤ l[j]!.1 ∧ ((j : Int) < fst1 l i → l[(fst1 l i).toNat]!.1 < l[j]!.1) := by
  intro i
  induction i with
  | zero => intro j h; omega
  | succ i ih =>
    intro j hj
    have r := fst1_range l i
    rw [fst1]
    by_cases h : fst1 l i < 0 ∨ l[i]!.1 < l[(fst1 l i).toNat]!.1
    · rw [if_pos h]
      simp only [Int.toNat_natCast]
      by_cases hji : j = i
      · subst hji; exact ⟨Int.le_refl _, fun h => by omega⟩
      · have := ih j (by omega)
        rcases h with h | h
        · exact absurd (r.2.2 (by omega)) (by omega)
        · exact ⟨by omega, fun _ => by omega⟩
    · rw [if_neg h]
      by_cases hji : j = i
      · subst hji; exact ⟨by omega, fun h => by omega⟩
      · exact ih j (by omega)
theorem frst_nil (l : List (Int × Int)) (h : l.length = 0) : frst l = -1 := by rw [frst, h]; rfl
theorem frst_some (l : List (Int × Int)) (h : 0 < l.length) : 0 ≤ frst l ∧ frst l < l.length := ⟨(fst1_range l l.length).2.2 h, (fst1_range l l.length).2.1⟩

/-- The reference's list in the order of popping. -/
def srt : Nat → List (Int × Int) → List (Int × Int)
  | 0, _ => []
  | n + 1, l => l[(frst l).toNat]! :: srt n (l.eraseIdx (frst l).toNat)
theorem srt_len (n : Nat) : ∀ l, (srt n l).length = n := by
  induction n with
  | zero => intro l; rfl
  | succ n ih => intro l; simp [srt, ih]

/-- The heap holds the items of m, the earlier pushed with the smaller number. -/
def Inv (m : List (Int × Int)) (xs : Array It) (nx : Int) : Prop :=
  ∃ L : List It, L.map pair = m ∧ xs.toList.Perm L ∧ Hp.Ord (lt idK) xs ∧ L.Pairwise (fun a b => a.s < b.s) ∧ ∀ x ∈ L, x.s < nx

theorem Inv.size {m : List (Int × Int)} {xs : Array It} {nx : Int} (h : Inv m xs nx) : m.length = xs.size := by
  obtain ⟨L, rfl, hp, _⟩ := h
  have := hp.length_eq
  simp at this ⊢
  omega
theorem inv_new : Inv [] #[] 0 := ⟨[], rfl, List.Perm.refl _, fun k hk hks => by simp at hks, List.Pairwise.nil, fun x hx => by cases hx⟩

theorem inv_push {m : List (Int × Int)} {xs : Array It} {nx : Int} (h : Inv m xs nx) (k n : Int) : Inv (m ++ [(k, n)]) (Hp.pushM (lt idK) xs ⟨k, n, nx⟩) (nx + 1) := by
  obtain ⟨L, rfl, hp, ho, hs, hb⟩ := h
  refine ⟨L ++ [⟨k, n, nx⟩], by simp [pair], (Hp.pushM_perm xs _).trans (hp.append_right _), Hp.pushM_ord (lt_swo idK) xs _ ho, ?_, fun x hx => ?_⟩
  · rw [List.pairwise_append]
    refine ⟨hs, List.pairwise_singleton _ _, fun a ha b hb' => ?_⟩
    simp at hb'
    subst hb'
    exact hb a ha
  · simp at hx
    rcases hx with hx | rfl
    · have := hb x hx; omega
    · simp only; omega

theorem erase_map (l : List It) : ∀ i, (l.map pair).eraseIdx i = (l.eraseIdx i).map pair := by
  induction l with
  | nil => intro i; rfl
  | cons x l ih =>
    intro i
    cases i with
    | zero => rfl
    | succ i => simp [List.eraseIdx, ih]
theorem erase_perm (l : List It) : ∀ i (h : i < l.length), (l[i] :: l.eraseIdx i).Perm l := by
  induction l with
  | nil => intro i h; cases h
  | cons x l ih =>
    intro i h
    cases i with
    | zero => exact List.Perm.refl _
    | succ i =>
      have := ih i (by simpa using h)
      simp only [List.getElem_cons_succ, List.eraseIdx_cons_succ]
      exact (List.Perm.swap _ _ _).trans (this.cons _)

theorem inv_head {m : List (Int × Int)} {xs : Array It} {nx : Int} (h : Inv m xs nx) (h0 : 0 < xs.size) :
    pair xs[0]! = m[(frst m).toNat]! ∧ Inv (m.eraseIdx (frst m).toNat) (Hp.popM (lt idK) xs) nx := by
  have hsz := h.size
  obtain ⟨L, rfl, hp, ho, hs, hb⟩ := h
  have fr := frst_some (L.map pair) (by omega)
  have fl := fst1_least (L.map pair) (L.map pair).length
  obtain ⟨a, ha⟩ : ∃ a : Nat, frst (L.map pair) = a := ⟨(frst (L.map pair)).toNat, (Int.toNat_of_nonneg fr.1).symm⟩
  change ∀ j : Nat, j < _ → (L.map pair)[(frst (L.map pair)).toNat]!.1 ≤ _ ∧ ((j : Int) < frst (L.map pair) → (L.map pair)[(frst (L.map pair)).toNat]!.1 < _) at fl
  rw [ha] at fr fl
  simp only [Int.toNat_natCast, List.length_map] at fr fl
  rw [ha, Int.toNat_natCast]
  have haL : a < L.length := by omega
  have hget : ∀ j (hj : j < L.length), (L.map pair)[j]! = pair L[j] := fun j hj => by
    rw [List.getElem!_eq_getElem?_getD, List.getElem?_map, List.getElem?_eq_getElem hj]; rfl
  have hmem : xs[0]! ∈ L := hp.subset (by rw [Hp.gp _ _ h0]; simp)
  obtain ⟨b, hbL, hbe⟩ := List.getElem_of_mem hmem
  have hmin : lt idK L[a] L[b] = false := by
    rw [hbe]
    exact Hp.popM_min (lt_swo idK) xs ho _ (hp.symm.subset (List.getElem_mem haL))
  have fb := fl b hbL
  rw [hget a haL, hget b hbL] at fb
  simp only [pair] at fb
  have hab : a = b := by
    by_cases hlt : b < a
    · have := fb.2 (by omega)
      simp [lt, idK] at hmin
      omega
    · by_cases hgt : a < b
      · have hss := List.pairwise_iff_getElem.1 hs a b haL hbL hgt
        have := fb.1
        simp [lt, idK] at hmin
        omega
      · omega
  subst hab
  refine ⟨by rw [hget a haL, hbe], L.eraseIdx a, (erase_map L a).symm, ?_, Hp.popM_ord (lt_swo idK) xs ho, hs.sublist (List.eraseIdx_sublist _ _), fun x hx => hb x ((List.eraseIdx_sublist _ _).subset hx)⟩
  have p1 := (Hp.popM_perm (lt := lt idK) xs h0).trans (hp.trans (erase_perm L a haL).symm)
  rw [hbe] at p1
  exact p1.cons_inv

theorem inv_srt (n : Nat) : ∀ (m : List (Int × Int)) (xs : Array It) (nx : Int), Inv m xs nx → xs.size = n → (Hp.drain (lt idK) n xs).map pair = srt n m := by
  induction n with
  | zero => intro m xs nx _ _; rfl
  | succ n ih =>
    intro m xs nx h hn
    obtain ⟨h1, h2⟩ := inv_head h (by omega)
    rw [Hp.drain, srt, List.map_cons, h1, ih _ _ nx h2 (by rw [Hp.popM_size]; omega)]

theorem inv_rem {m : List (Int × Int)} {xs : Array It} {nx : Int} (h : Inv m xs nx) (M : Int × Int → Bool) (k : List It) (hk : k = xs.toList.filter fun x => !M (pair x)) :
    k.length = (m.filter fun x => !M x).length ∧ Inv (m.filter fun x => !M x) (Hp.heapify (lt idK) (k.length / 2) k.toArray) nx := by
  obtain ⟨L, rfl, hp, ho, hs, hb⟩ := h
  have hf : (L.map pair).filter (fun x => !M x) = (L.filter fun x => !M (pair x)).map pair := by rw [List.filter_map]; rfl
  have hkp : k.Perm (L.filter fun x => !M (pair x)) := by rw [hk]; exact hp.filter _
  refine ⟨by rw [hf, List.length_map]; exact hkp.length_eq, L.filter fun x => !M (pair x), hf.symm, (Hp.heapify_perm _ _).trans (by simpa using hkp), Hp.heapify_ord (lt_swo idK) _ _ ?_, hs.sublist List.filter_sublist, fun x hx => hb x (List.mem_filter.1 hx).1⟩
  have := Hp.ordFrom_half (lt := lt idK) k.toArray
  simpa using this
end Go.Proofs.Ytjdkaagkaambkaa
