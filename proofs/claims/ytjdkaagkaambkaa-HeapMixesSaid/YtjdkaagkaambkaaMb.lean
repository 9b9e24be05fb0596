/- The plain law of HeapMixes: the counts are the multiplicities of the items that the heap holds. -/
import Derived.Test.YtjdkaagkaambkaaMa
import Derived.Test.YtjdkaagkaambkaaL
namespace Go.Proofs.Ytjdkaagkaambkaa
open Go.RowKit Go.Proofs

def cd (l : List (Int × Int)) : Int × Int → Int := fun x => (l.count x : Int)
def cf (xs : Array It) : Int × Int → Int := cd (xs.toList.map pair)

theorem cd_perm {l m : List (Int × Int)} (h : l.Perm m) : cd l = cd m := by
  funext x; unfold cd; rw [h.count_eq]
theorem cd_cons (y : Int × Int) (l : List (Int × Int)) : cd (y :: l) = upd (cd l) y (cd l y + 1) := by
  funext x
  unfold upd cd
  rw [List.count_cons]
  by_cases h : x = y
  · subst h; simp
  · have : (y == x) = false := by simpa using fun e => h e.symm
    simp [this, h]
theorem cd_uncons (y : Int × Int) (l : List (Int × Int)) : cd l = upd (cd (y :: l)) y (cd (y :: l) y - 1) := by
  rw [cd_cons]
  funext x
  unfold upd
  by_cases h : x = y
  · subst h; simp
  · simp [h]
theorem cd_nonneg (l : List (Int × Int)) (x : Int × Int) : 0 ≤ cd l x := by unfold cd; omega
theorem cd_le (l : List (Int × Int)) (x : Int × Int) : cd l x ≤ l.length := by
  unfold cd
  have := List.count_le_length (a := x) (l := l)
  omega
theorem cd_nil : cd [] = fun _ => 0 := by funext x; simp [cd]

theorem cf_push (xs : Array It) (k n nx : Int) : cf (Hp.pushM (lt idK) xs ⟨k, n, nx⟩) = upd (cf xs) (k, n) (cf xs (k, n) + 1) := by
  unfold cf
  rw [← cd_cons]
  refine cd_perm ?_
  have h := (Hp.pushM_perm (lt := lt idK) xs ⟨k, n, nx⟩).map pair
  refine h.trans ?_
  simp only [List.map_append, List.map_cons, List.map_nil, pair]
  exact (List.perm_append_comm (l₁ := xs.toList.map fun x => (x.k, x.n)) (l₂ := [(k, n)]))
theorem cf_pop (xs : Array It) (h : 0 < xs.size) : cf (Hp.popM (lt idK) xs) = upd (cf xs) (pair xs[0]!) (cf xs (pair xs[0]!) - 1) := by
  have hp := (Hp.popM_perm (lt := lt idK) xs h).map pair
  have e : cf xs = cd (pair xs[0]! :: (Hp.popM (lt idK) xs).toList.map pair) := (cd_perm hp).symm
  rw [e]
  exact cd_uncons _ _
theorem cf_le (xs : Array It) (x : Int × Int) : 0 ≤ cf xs x ∧ cf xs x ≤ xs.size := by
  have := cd_le (xs.toList.map pair) x
  simp at this
  exact ⟨cd_nonneg _ _, this⟩
theorem peek_later (xs : Array It) (ho : Hp.Ord (lt idK) xs) (h : 0 < xs.size) (h2 : 0 < (Hp.popM (lt idK) xs).size) : ¬ (Hp.popM (lt idK) xs)[0]!.k < xs[0]!.k := by
  have hp := Hp.popM_perm (lt := lt idK) xs h
  have hm : (Hp.popM (lt idK) xs)[0]! ∈ xs.toList := hp.subset (List.mem_cons_of_mem _ (by rw [Hp.gp _ _ h2]; simp))
  have := Hp.popM_min (lt_swo idK) xs ho _ hm
  simp [lt, idK] at this
  omega
theorem cf_drain (xs : Array It) : cd ((Hp.drain (lt idK) xs.size xs).map pair) = cf xs := cd_perm ((Hp.drain_perm (lt := lt idK) xs.size xs rfl).map pair)
theorem cd_drop (D : List (Int × Int)) (i : Nat) (h : i < D.length) : cd (D.drop (i + 1)) = upd (cd (D.drop i)) D[i] (cd (D.drop i) D[i] - 1) := by
  have e : D.drop i = D[i] :: D.drop (i + 1) := List.drop_eq_getElem_cons h
  rw [e]
  exact cd_uncons _ _
theorem wf_small {n : Int} (h : -1000000 ≤ n) (h2 : n ≤ 1000000) : (Lit.int .i64 n).wf = true := by
  have h3 : IntKind.i64.min = -9223372036854775808 := rfl
  have h4 : IntKind.i64.max = 9223372036854775807 := rfl
  simp only [Lit.wf, h3, h4, Bool.and_eq_true, decide_eq_true_eq]
  omega
def WfAll (xs : Array It) : Prop := ∀ x ∈ xs.toList, Wf2 (pair x)
theorem wf_push {xs : Array It} {k n nx : Int} (h : WfAll xs) (hx : Wf2 (k, n)) : WfAll (Hp.pushM (lt idK) xs ⟨k, n, nx⟩) := fun x hm => by
  have := (Hp.pushM_perm (lt := lt idK) xs ⟨k, n, nx⟩).subset hm
  simp at this
  rcases this with h1 | rfl
  · exact h x (by simpa using h1)
  · exact hx
theorem wf_pop {xs : Array It} (h : WfAll xs) (h0 : 0 < xs.size) : WfAll (Hp.popM (lt idK) xs) ∧ Wf2 (pair xs[0]!) := by
  have hp := Hp.popM_perm (lt := lt idK) xs h0
  exact ⟨fun x hm => h x (hp.subset (List.mem_cons_of_mem _ hm)), h _ (hp.subset (List.mem_cons_self))⟩
end Go.Proofs.Ytjdkaagkaambkaa
