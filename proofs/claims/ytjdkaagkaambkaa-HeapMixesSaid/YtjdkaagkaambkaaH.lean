/- What popping all gives is the one sorted list; 'awake' answers true. -/
import Derived.Test.YtjdkaagkaambkaaG
namespace Go.Proofs.Ytjdkaagkaambkaa
open Go.RowKit Go.Proofs

theorem its_distinct (l : List (Int × Int)) : ∀ s, (its s l).Pairwise (fun a b => a.s ≠ b.s) ∧ ∀ x ∈ its s l, (s : Int) ≤ x.s := by
  induction l with
  | nil => intro s; simp [its]
  | cons y l ih =>
    intro s
    obtain ⟨h1, h2⟩ := ih (s + 1)
    refine ⟨List.Pairwise.cons (fun b hb => ?_) h1, fun x hx => ?_⟩
    · have := h2 b hb
      simp only
      omega
    · simp only [its, List.mem_cons] at hx
      rcases hx with rfl | hx
      · exact Int.le_refl _
      · have := h2 x hx; omega

theorem drain_build_perm (K : Int → Int) (L : List It) : (Hp.drain (lt K) L.length (build K L)).Perm L :=
  (Hp.drain_perm (lt := lt K) L.length (build K L) (build_size K L)).trans (build_perm K L)

theorem strict_of (K : Int → Int) (D : List It) (h1 : D.Pairwise (fun a b => lt K b a = false)) (h2 : D.Pairwise (fun a b => a.s ≠ b.s)) : D.Pairwise (fun a b => lt K a b = true) := by
  refine List.Pairwise.imp₂ (fun a b h1 h2 => ?_) h1 h2
  simp [lt] at h1 ⊢
  omega

theorem drain_build_strict (K : Int → Int) (l : List (Int × Int)) (s : Nat) : (Hp.drain (lt K) (its s l).length (build K (its s l))).Pairwise (fun a b => lt K a b = true) :=
  strict_of K _ (Hp.drain_sorted (lt_swo K) _ _ (build_size K _) (build_ord K _)) ((drain_build_perm K _).symm.pairwise (its_distinct l s).1 (fun h => Ne.symm h))

theorem drain_build (K : Int → Int) (l : List (Int × Int)) (s : Nat) (S : List It) (hS : S.Perm (its s l)) (hp : S.Pairwise (fun a b => lt K a b = true)) : Hp.drain (lt K) (its s l).length (build K (its s l)) = S :=
  Hp.sorted_unique (r := lt K) (lt_swo K).asymm _ _ ((drain_build_perm K _).trans hS.symm) (drain_build_strict K l s) hp

def aw : List (Int × Int) := [(2, 0), (1, 1), (2, 2), (1, 3)]
def awk : List Int := [2, 1, 2, 1]
theorem aw_drain : (Hp.drain (lt (fun x => x)) (build (fun x => x) (its 0 aw)).size (build (fun x => x) (its 0 aw))).map pair = [(1, 1), (1, 3), (2, 0), (2, 2)] := by
  rw [build_size, drain_build (fun x => x) aw 0 [⟨1, 1, 1⟩, ⟨1, 3, 3⟩, ⟨2, 0, 0⟩, ⟨2, 2, 2⟩]]
  · rfl
  · simp only [its, aw]
    exact ((List.Perm.swap _ _ _).cons _).trans ((List.Perm.swap _ _ _).trans (((List.Perm.swap _ _ _).cons _).cons _))
  · simp [lt]

theorem drain_len' (K : Int → Int) (xs : Array It) : ((Hp.drain (lt K) xs.size xs).map pair).length = xs.size := by simp [Hp.drain_len]

/-- A block of integers is none of the heap's. -/
theorem ints_keep {p f I : Nat} {w w' : World} {v v' : Value} {xs : Array It} {nx : Int} {cs : Array Value} (h : w.heap[I]? = some (.cells cs 3 (0, 0))) (k : HeapAt w p f v xs nx) (s : Stp p w v w' v') : w'.heap[I]? = some (.cells cs 3 (0, 0)) := by
  rw [s.block I (Array.getElem?_eq_some_iff.1 h).1 ?_ ?_]
  · exact h
  · rintro rfl
    have := k.st
    rw [h] at this
    simp at this
  · intro e
    rcases k.row.2 with ⟨rfl, _⟩ | ⟨g', cap', cur', rfl, _, hg', _⟩
    · simp [Value.ownBlock] at e
    · simp [Value.ownBlock] at e
      subst e
      rw [h] at hg'
      simp at hg'

def AwakeRel (w : World) (jv : Value) (wr : World) : Prop :=
  ∃ (j : Nat) (v' : Value), jv = .int .i64 j ∧ j ≤ 4 ∧ HeapAt wr w.heap.size 23 v' (build (fun x => x) (its 0 (aw.take j))) j ∧ Below w.heap.size w wr ∧ (∀ k, v'.ownBlock = some k → w.heap.size ≤ k) ∧
    wr.heap[w.heap.size + 1]? = some (.cells #[.int .i64 2, .int .i64 1, .int .i64 2, .int .i64 1] 3 (0, 0))

theorem aw_get (j : Nat) (hj : j < 4) : ∃ k : Int, aw[j]? = some (k, (j : Int)) ∧ (#[Value.int .i64 2, .int .i64 1, .int .i64 2, .int .i64 1] : Array Value)[j]? = some (.int .i64 k) := by
  rcases (by omega : j = 0 ∨ j = 1 ∨ j = 2 ∨ j = 3) with rfl | rfl | rfl | rfl
  · exact ⟨2, rfl, rfl⟩
  · exact ⟨1, rfl, rfl⟩
  · exact ⟨2, rfl, rfl⟩
  · exact ⟨1, rfl, rfl⟩

def AwakeEnd (w : World) (e : Ending) (w' : World) : Prop := e = .returned (.bool true) ∧ Below w.heap.size w w'

theorem lit_arr (w : World) : Arr2 (w.alloc (.cells #[.int .i64 1, .int .i64 1, .int .i64 1, .int .i64 3, .int .i64 2, .int .i64 0, .int .i64 2, .int .i64 2] 26)) (.slice (some ⟨w.heap.size, 0, none⟩) 4 4) [(1, 1), (1, 3), (2, 0), (2, 2)] := by
  refine ⟨_, 4, rfl, fun _ => ⟨w.heap.size, 0, rfl, by simp, fun i hi => ?_⟩⟩
  have h := heap_alloc_new w (.cells #[.int .i64 1, .int .i64 1, .int .i64 1, .int .i64 3, .int .i64 2, .int .i64 0, .int .i64 2, .int .i64 2] 26)
  rw [cell_of_row _ _ _ _ _ _ h, cell_of_row _ _ _ _ _ _ h]
  simp only [List.length_cons, List.length_nil] at hi
  rcases (by omega : i = 0 ∨ i = 1 ∨ i = 2 ∨ i = 3) with rfl | rfl | rfl | rfl <;> exact ⟨rfl, rfl⟩

set_option maxHeartbeats 1000000 in
set_option maxRecDepth 1000000 in
theorem awake_any (w : World) : Calls Try.prog 11 #[] w (AwakeEnd w) := by
  have h0 := Lib.hid (heap_new w 23)
  go_enter Try.func11, Try.ntmps11
  go_wp2_with (go_at_call 14; refine (new_any 23 _).mono ?_; rintro e w1 ⟨rfl, rfl⟩)
  go_loopg [9] (4 - 0) (fun g jv wr => AwakeRel w jv wr ∧ 4 ≤ g + (intOf jv).toNat)
  case atStart =>
    refine ⟨⟨0, _, rfl, by omega, by simpa [its, build, aw] using h0.out.below ((Below.refl _ _).alloc (Nat.le_refl _) _), ((Below.refl _ _).alloc (Nat.le_refl _) _).alloc (by simp) _, by simp [Value.ownBlock], ?_⟩, by simp [intOf]⟩
    exact alloc2_new w _ _
  case round =>
    clear h0
    obtain ⟨⟨j, v', rfl, hj4, hHy, hB, hv, hI⟩, hg⟩ := hrel
    simp only [intOf, Int.toNat_natCast] at hg
    have HHy := Lib.hid hHy
    have HB := Lib.hid hB
    have HV := Lib.hid hv
    have HI := Lib.hid hI
    clear hHy hB hv hI
    by_cases hlt : j < 4
    · have hlt' : (j : Int) < 4 := by omega
      obtain ⟨k, hk1, hk2⟩ := aw_get j hlt
      have hc : wr.cell? ⟨w.heap.size + 1, j, none⟩ = some (.int .i64 k) := by rw [cell_of_row wr _ j _ _ _ HI.out]; exact hk2
      have HK1 := Lib.hid hk1
      clear hk1 hk2
      go_wp2_with fail
      refine (push_any 23 (fun x => x) byKey_less run23 _ v' (build (fun x => x) (its 0 (aw.take j))) j k j _ HHy.out ?_ ?_ ?_).mono ?_
      · rw [build_size, its_len, List.length_take]; omega
      · omega
      · omega
      rintro e w2 ⟨rfl, v2, hH2, hS2⟩
      have HH2 := Lib.hid hH2
      have HS2 := Lib.hid hS2
      clear hH2 hS2
      go_wp2_with fail
      go_roundg (4 - (j + 1))
      case measure => omega
      case rel =>
        have hjl : j < aw.length := by show j < 4; exact hlt
        have hkj : aw[j] = (k, (j : Int)) := by
          have := HK1.out
          rw [List.getElem?_eq_getElem hjl] at this
          simpa using this
        refine ⟨⟨j + 1, v2, by go_num, by omega, ?_, ?_, ?_, ?_⟩, by simp [intOf]; omega⟩
        · have := HH2.out
          rw [take_snoc aw j hjl, its_snoc, build_snoc, hkj]
          have e1 : (List.take j aw).length = j := by rw [List.length_take]; omega
          rw [e1]
          simpa using this
        · exact HB.out.trans (HS2.out.below HB.out.size (Nat.le_refl _) HV.out)
        · intro i hi
          rcases HS2.out.row i hi with h | h
          · exact HV.out i h
          · have := HB.out.size; omega
        · exact ints_keep HI.out HHy.out HS2.out
    · obtain rfl : j = 4 := by omega
      go_wp2_with fail
      refine (popped_any 23 (fun x => x) byKey_less run23 _ v' _ _ _ HHy.out ?_).mono ?_
      · rw [build_size, its_len]; simp [aw]
      rintro e w2 ⟨vo, v2, ys, rfl, hr2, hH2, hy0, hS2⟩
      have e1 : aw.take 4 = aw := rfl
      rw [e1, aw_drain] at hr2
      obtain ⟨oo, oc, rfl⟩ := hr2.slice
      have hb2 := HB.out.trans (hS2.below HB.out.size (Nat.le_refl _) HV.out)
      have HR2 := Lib.hid hr2.arr
      have HB2 := Lib.hid hb2
      clear hr2 hH2 hy0 hS2 hb2
      go_wp2_with fail
      refine (same_any _ _ 4 _ 4 _ [(1, 1), (1, 3), (2, 0), (2, 2)] [(1, 1), (1, 3), (2, 0), (2, 2)] _ (HR2.out.below ((Below.refl _ _).alloc (Nat.le_refl _) _)) (lit_arr w2) (by omega) rfl rfl).mono ?_
      rintro e w3 ⟨rfl, hb3⟩
      have HB3 := Lib.hid hb3
      clear hb3
      go_wp2_with fail
      go_ret
      go_light
      exact ⟨by simp, (HB2.out.alloc HB2.out.size _).trans (HB3.out.mono (HB2.out.alloc HB2.out.size _).size)⟩
end Go.Proofs.Ytjdkaagkaambkaa
