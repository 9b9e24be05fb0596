/- 'pushed', 'Same', 'awake', each by a contract. -/
import Derived.Test.YtjdkaagkaambkaaE
namespace Go.Proofs.Ytjdkaagkaambkaa
open Go.RowKit Go.Proofs

/-- The items with the numbers of their pushes. -/
def its : Nat → List (Int × Int) → List It
  | _, [] => []
  | s, x :: l => ⟨x.1, x.2, (s : Int)⟩ :: its (s + 1) l
theorem its_len (l : List (Int × Int)) : ∀ s, (its s l).length = l.length := by
  induction l with
  | nil => intro s; rfl
  | cons x l ih => intro s; simp [its, ih]
theorem its_snoc (l : List (Int × Int)) (x : Int × Int) : ∀ s, its s (l ++ [x]) = its s l ++ [⟨x.1, x.2, (s : Int) + l.length⟩] := by
  induction l with
  | nil => intro s; simp [its]
  | cons y l ih =>
    intro s
    simp only [List.cons_append, its, ih, List.length_cons]
    congr 3
    simp only [It.mk.injEq, true_and]
    push_cast
    omega
def build (K : Int → Int) (l : List It) : Array It := l.foldl (Hp.pushM (lt K)) #[]
theorem build_snoc (K : Int → Int) (l : List It) (x : It) : build K (l ++ [x]) = Hp.pushM (lt K) (build K l) x := by simp [build]
theorem foldl_facts (K : Int → Int) (l : List It) : ∀ xs : Array It, Hp.Ord (lt K) xs → (l.foldl (Hp.pushM (lt K)) xs).toList.Perm (xs.toList ++ l) ∧ Hp.Ord (lt K) (l.foldl (Hp.pushM (lt K)) xs) := by
  induction l with
  | nil => intro xs h; simp [h]
  | cons x l ih =>
    intro xs h
    obtain ⟨h1, h2⟩ := ih (Hp.pushM (lt K) xs x) (Hp.pushM_ord (lt_swo K) xs x h)
    refine ⟨?_, h2⟩
    have h3 := (Hp.pushM_perm (lt := lt K) xs x).append_right l
    simpa using h1.trans h3
theorem build_perm (K : Int → Int) (l : List It) : (build K l).toList.Perm l := by
  have := (foldl_facts K l #[] (fun k _ hk => by simp at hk)).1
  simpa [build] using this
theorem build_ord (K : Int → Int) (l : List It) : Hp.Ord (lt K) (build K l) := (foldl_facts K l #[] (fun k _ hk => by simp at hk)).2
theorem build_size (K : Int → Int) (l : List It) : (build K l).size = l.length := by
  have := (build_perm K l).length_eq
  simpa using this

def PushedRel (w : World) (l : List (Int × Int)) (jv : Value) (wr : World) : Prop :=
  ∃ (j : Nat) (v' : Value), jv = .int .i64 j ∧ j ≤ l.length ∧ HeapAt wr w.heap.size 23 v' (build (fun x => x) (its 0 (l.take j))) j ∧ Below w.heap.size w wr ∧ (∀ k, v'.ownBlock = some k → w.heap.size ≤ k)

def PushedEnd (w : World) (l : List (Int × Int)) (e : Ending) (w' : World) : Prop :=
  e = .returned (.pointer (some ⟨w.heap.size, 0, none⟩)) ∧ ∃ v', HeapAt w' w.heap.size 23 v' (build (fun x => x) (its 0 l)) l.length ∧ Below w.heap.size w w' ∧ (∀ k, v'.ownBlock = some k → w.heap.size ≤ k)

theorem heap_new (w : World) (fid : Nat) : HeapAt (w.alloc (.cells #[.func (.func fid) #[] #[], .slice none 0 0, .int .i64 0] 65)) w.heap.size fid (.slice none 0 0) #[] 0 :=
  ⟨heap_alloc_new w _, World.ownsRow_nil _ _ _ _, by simp⟩

theorem take_snoc {α : Type} (l : List α) (j : Nat) (h : j < l.length) : l.take (j + 1) = l.take j ++ [l[j]] := by
  rw [List.take_succ_eq_append_getElem h]

set_option maxHeartbeats 1000000 in
set_option maxRecDepth 1000000 in
theorem pushed_any (ao : Option Addr) (n cap : Nat) (l : List (Int × Int)) (w : World) (hA : Arr2 w (.slice ao n cap) l) (hn : n ≤ 900) (hl : l.length = n) :
    Calls Try.prog 13 #[.slice ao n cap] w (PushedEnd w l) := by
  have hlt : Hid (n ≤ l.length) := Lib.hid (by omega)
  have HLn := Lib.hid hl
  have HA := Lib.hid hA
  clear hA hl
  have h0 := Lib.hid (heap_new w 23)
  go_enter Try.func13, Try.ntmps13
  go_wp2_with (go_at_call 14; refine (new_any 23 _).mono ?_; rintro e w1 ⟨rfl, rfl⟩)
  go_loopg [9] (n - 0) (fun g jv wr => PushedRel w l jv wr ∧ n ≤ g + (intOf jv).toNat)
  case atStart =>
    exact ⟨⟨0, _, rfl, Nat.zero_le _, by simpa [its, build] using h0.out, (Below.refl _ _).alloc (Nat.le_refl _) _, by simp [Value.ownBlock]⟩, by simp [intOf]⟩
  case round =>
    clear h0
    obtain ⟨⟨j, v', rfl, hjl, hHy, hB, hv⟩, hg⟩ := hrel
    simp only [intOf, Int.toNat_natCast] at hg
    have HHy := Lib.hid hHy
    have HB := Lib.hid hB
    have HV := Lib.hid hv
    have hjn : j ≤ n := by have := HLn.out; omega
    clear hHy hB hv hjl
    by_cases hlt : j < n
    · have hlt' : (j : Int) < (n : Int) := by omega
      have hjl : j < l.length := by have := HLn.out; omega
      obtain ⟨a, ha⟩ : ∃ a, l[j].1 = a := ⟨_, rfl⟩
      obtain ⟨b, hb⟩ : ∃ a, l[j].2 = a := ⟨_, rfl⟩
      obtain ⟨ab, aoff, rfl, habw, hc⟩ : ∃ bb off, ao = some ⟨bb, off, none⟩ ∧ bb < wr.heap.size ∧ wr.cell? ⟨bb, off + j * 2, none⟩ = some (.int .i64 a) ∧ wr.cell? ⟨bb, off + j * 2 + 1, none⟩ = some (.int .i64 b) := by
        obtain ⟨ao', cap', e, h⟩ := (HA.out.below HB.out)
        simp only [Value.slice.injEq] at e
        obtain ⟨rfl, _, _⟩ := e
        obtain ⟨bb, off, h1, h2, h3⟩ := h (by omega)
        have h4 := h3 j hjl
        rw [ha, hb] at h4
        exact ⟨bb, off, h1, h2, h4⟩
      obtain ⟨hc0, hc1⟩ := hc
      have HAa := Lib.hid ha
      have HBb := Lib.hid hb
      clear ha hb
      go_wp2_with fail
      refine (push_any 23 (fun x => x) byKey_less run23 _ v' (build (fun x => x) (its 0 (l.take j))) j a b _ (HHy.out.below ((Below.refl _ _).alloc (Nat.le_refl _) _)) ?_ ?_ ?_).mono ?_
      · rw [build_size, its_len, List.length_take]; omega
      · omega
      · omega
      rintro e w2 ⟨rfl, v2, hH2, hS2⟩
      have HH2 := Lib.hid hH2
      have HS2 := Lib.hid hS2
      clear hH2 hS2
      go_wp2_with fail
      go_roundg (n - (j + 1))
      case measure => omega
      case rel =>
        refine ⟨⟨j + 1, v2, by go_num, by omega, ?_, ?_, ?_⟩, by simp [intOf]; omega⟩
        · have := HH2.out
          rw [take_snoc l j hjl, its_snoc, build_snoc]
          rw [← HAa.out, ← HBb.out] at this
          have e1 : (List.take j l).length = j := by rw [List.length_take]; omega
          rw [e1]
          simpa using this
        · have hB := HB.out
          have h1 : Below w.heap.size w (wr.alloc (.cells #[.int .i64 a, .int .i64 b] 26)) := hB.alloc hB.size _
          exact h1.trans (HS2.out.below (by have := h1.size; exact this) (Nat.le_refl _) HV.out)
        · intro k hk
          rcases HS2.out.row k hk with h | h
          · exact HV.out k h
          · have := HB.out.size; simp at h; omega
    · have hlt' : (n : Int) ≤ (j : Int) := by omega
      go_wp2_with fail
      go_ret
      go_light
      have hj : l.take j = l := List.take_of_length_le (by have := HLn.out; omega)
      have hj2 : (j : Int) = l.length := by have := HLn.out; omega
      have := HHy.out
      rw [hj, hj2] at this
      exact ⟨rfl, v', this, HB.out, HV.out⟩
end Go.Proofs.Ytjdkaagkaambkaa
