/- The arguments of HeapMixes: a slice of items, with the ranges of its numbers; a slice of bytes. -/
import Derived.Test.YtjdkaagkaambkaaMixW
import Derived.Test.YtjdkaagkaambkaaO
namespace Go.Proofs.Ytjdkaagkaambkaa
section
open Go.ChangeShapes Go.WideShapes Go.Deep Go.RowKit
variable {H : Type} {enc : TypeId × Value → H} {w : World} {base : Nat} {spare : Nat → Bool} {held : Bool}

def Items2 (w : World) (v : Value) (l : List (Int × Int)) : Prop := Arr2 w v l ∧ ∀ x ∈ l, Wf2 x

theorem open_items2 {fuel n c : Nat} {a : Option Addr} {x : DataW H × List MemPlace} (h : DataW.trod enc Try.prog w base spare held fuel 24 [.slice a n c] = some x) :
    ∃ l : List (Int × Int), l.length = n ∧ n ≤ maxLen ∧ Items2 w (.slice a n c) l := by
  rcases open_slice_fields Try.underlying24 Try.underlying26 (by kernel_rfl) (by kernel_rfl) h with ⟨hcs, _⟩ | ⟨a', len, cap, m, D, Pl, hcs, hb, hl, hm, hmm, hx, hi⟩
  · simp at hcs
    obtain ⟨rfl, rfl, rfl⟩ := hcs
    exact ⟨[], rfl, Nat.zero_le _, ⟨none, 0, rfl, fun h => by simp at h⟩, fun x hx => by cases hx⟩
  · simp at hcs
    obtain ⟨rfl, rfl, rfl⟩ := hcs
    have hmn : n ≤ m := by rw [hmm]; split <;> omega
    have hcell : ∀ i, i < n → ∃ k nm : Int, w.cell? (a'.add (i * 2)) = some (.int .i64 k) ∧ w.cell? (a'.add (i * 2 + 1)) = some (.int .i64 nm) ∧ Wf2 (k, nm) := by
      intro i him
      obtain ⟨ys, n', _, _, _, hf⟩ := hi i (by omega)
      obtain ⟨v0, y0, c0, _, t0⟩ := hf 0 _ rfl
      obtain ⟨v1, y1, c1, _, t1⟩ := hf 1 _ rfl
      obtain ⟨k, e0, _, wk⟩ := DataW.trod_int (k := .i64) (by kernel_rfl) t0
      obtain ⟨nm, e1, _, wn⟩ := DataW.trod_int (k := .i64) (by kernel_rfl) t1
      simp at e0 e1
      subst e0 e1
      exact ⟨k, nm, c0, c1, wk, wn⟩
    refine ⟨(List.range n).map fun i => (intOf ((w.cell? (a'.add (i * 2))).getD undef), intOf ((w.cell? (a'.add (i * 2 + 1))).getD undef)), by simp, by omega, ⟨some a', c, by simp, fun h0 => ?_⟩, fun x hx => ?_⟩
    · have h1 : 0 < n := by simpa using h0
      obtain ⟨b, off, sp⟩ := a'
      obtain ⟨k0, n0, c0, _⟩ := hcell 0 h1
      obtain rfl : sp = none := by
        cases sp with
        | none => rfl
        | some q => simp [Addr.add, World.cell?] at c0; split at c0 <;> simp at c0
      have hadd : ∀ i, (⟨b, off, none⟩ : Addr).add i = ⟨b, off + i, none⟩ := fun i => by unfold Addr.add; split <;> simp_all
      refine ⟨b, off, rfl, World.block_lt_of_cell? w _ c0, fun i hi' => ?_⟩
      obtain ⟨k, nm, d0, d1, _⟩ := hcell i (by simpa using hi')
      simp only [hadd] at d0 d1
      simp only [List.getElem_map, List.getElem_range, hadd]
      rw [Nat.add_assoc] at *
      rw [d0, d1]
      exact ⟨rfl, rfl⟩
    · obtain ⟨i, hi', rfl⟩ := List.mem_map.1 hx
      obtain ⟨k, nm, d0, d1, hw⟩ := hcell i (List.mem_range.1 hi')
      rw [d0, d1]
      exact hw

theorem open_bts {fuel n c : Nat} {a : Option Addr} {x : DataW H × List MemPlace} (h : DataW.trod enc Try.prog w base spare held fuel 46 [.slice a n c] = some x) :
    ∃ l : List Int, l.length = n ∧ n ≤ maxLen ∧ Bts w (.slice a n c) l := by
  rcases open_ints Try.underlying46 Try.underlying5 (by kernel_rfl) h with ⟨hcs, _⟩ | ⟨a', len, cap, zs, hcs, _, hl, hm, hz, _, hcell, hwz⟩
  · simp at hcs
    obtain ⟨rfl, rfl, rfl⟩ := hcs
    exact ⟨[], rfl, Nat.zero_le _, none, 0, rfl, fun h => by simp at h⟩
  · simp at hcs
    obtain ⟨rfl, rfl, rfl⟩ := hcs
    have hz' : n ≤ zs.length := by rw [hz]; split <;> omega
    have hlen : (zs.take n).length = n := by rw [List.length_take]; omega
    refine ⟨zs.take n, hlen, by omega, some a', c, by rw [hlen], fun h0 => ?_⟩
    have h1 : 0 < zs.length := by omega
    obtain ⟨b, off, sp⟩ := a'
    have h2 := hcell 0 h1
    obtain rfl : sp = none := by
      cases sp with
      | none => rfl
      | some q => simp [Addr.add, World.cell?] at h2; split at h2 <;> simp at h2
    refine ⟨b, off, rfl, World.block_lt_of_cell? w _ h2, fun i hi => ?_⟩
    have hi' : i < zs.length := by rw [List.length_take] at hi; omega
    have h3 := hcell i hi'
    have h4 : (⟨b, off, none⟩ : Addr).add i = ⟨b, off + i, none⟩ := by unfold Addr.add; split <;> simp_all
    have hw := hwz zs[i] (List.getElem_mem hi')
    have hw2 : 0 ≤ zs[i] ∧ zs[i] ≤ 255 := by
      have h5 : IntKind.u8.min = 0 := rfl
      have h6 : IntKind.u8.max = 255 := rfl
      simpa only [Lit.wf, h5, h6, Bool.and_eq_true, decide_eq_true_eq] using hw
    rw [h4] at h3
    rw [h3, List.getElem_take, List.getD_eq_getElem?_getD, List.getElem?_eq_getElem hi']
    exact ⟨rfl, hw2⟩
end
open Go.RowKit
theorem mixes_row (a0 : Option Addr) (n0 c0 : Nat) (l0 : List (Int × Int)) (a1 : Option Addr) (n1 c1 : Nat) (l1 : List Int) (w : World) (hR0 : Items2 w (.slice a0 n0 c0) l0) (hl0 : l0.length = n0) (_hm0 : n0 ≤ maxLen) (hR1 : Bts w (.slice a1 n1 c1) l1) (hl1 : l1.length = n1) (_hm1 : n1 ≤ maxLen) :
    Calls Try.prog 6 #[.slice a0 n0 c0, .slice a1 n1 c1] w (TrueEndM w) := mixes_walk a0 a1 n0 c0 n1 c1 l0 l1 w hR0.1 hR1 hl0 hl1 hR0.2
end Go.Proofs.Ytjdkaagkaambkaa
