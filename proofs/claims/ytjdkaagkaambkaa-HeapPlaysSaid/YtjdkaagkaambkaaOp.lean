/- An argument that is a slice of operations: what its reading says of memory. -/
import Derived.Test.YtjdkaagkaambkaaPlA
import Derived.Test.YtjdkaagkaambkaaO
namespace Go.Proofs.Ytjdkaagkaambkaa
section
open Go.ChangeShapes Go.WideShapes Go.Deep Go.RowKit
variable {H : Type} {enc : TypeId × Value → H} {w : World} {base : Nat} {spare : Nat → Bool} {held : Bool}

theorem cells53 : Try.prog.cellsOf 53 = 3 := by kernel_rfl
theorem cells26 : Try.prog.cellsOf 26 = 2 := by kernel_rfl
theorem cells3 : Try.prog.cellsOf 3 = 1 := by kernel_rfl

theorem open_op {fuel : Nat} {cs : List Value} {x : DataW H × List MemPlace} (h : DataW.trod enc Try.prog w base spare held fuel 53 cs = some x) : ∃ a b c : Int, cs = [.int .i64 a, .int .i64 b, .int .i64 c] := by
  obtain ⟨y0, y1, n, _, hl, h0, h1⟩ := trod_struct2 Try.underlying53 h
  rw [cells53] at hl
  match cs, hl with
  | [u, v, z], _ =>
    simp only [cells3, cells26, List.drop, List.take] at h0 h1
    obtain ⟨a, ea, _, _⟩ := DataW.trod_int (k := .i64) (by kernel_rfl) h0
    obtain ⟨z0, z1, n', _, hl2, g0, g1⟩ := trod_struct2 Try.underlying26 h1
    simp only [cells3, List.drop, List.take] at g0 g1
    obtain ⟨b, eb, _, _⟩ := DataW.trod_int (k := .i64) (by kernel_rfl) g0
    obtain ⟨c, ec, _, _⟩ := DataW.trod_int (k := .i64) (by kernel_rfl) g1
    simp at ea eb ec
    exact ⟨a, b, c, by rw [ea, eb, ec]⟩

theorem open_ops {fuel n c : Nat} {a : Option Addr} {x : DataW H × List MemPlace} (h : DataW.trod enc Try.prog w base spare held fuel 51 [.slice a n c] = some x) :
    ∃ l : List (Int × Int × Int), l.length = n ∧ n ≤ maxLen ∧ Arr3 w (.slice a n c) l := by
  rcases open_slice Try.underlying51 h with ⟨hcs, _⟩ | ⟨a', len, cap, m, n', D, Pl, hcs, hb, hl, hm, hmm, hx, hi⟩
  · simp at hcs
    obtain ⟨rfl, rfl, rfl⟩ := hcs
    exact ⟨[], rfl, Nat.zero_le _, none, 0, rfl, fun h => by simp at h⟩
  · simp at hcs
    obtain ⟨rfl, rfl, rfl⟩ := hcs
    have hmn : n ≤ m := by rw [hmm]; split <;> omega
    have hcell : ∀ i, i < n → ∃ k y z : Int, w.cell? (a'.add (i * 3)) = some (.int .i64 k) ∧ w.cell? (a'.add (i * 3 + 1)) = some (.int .i64 y) ∧ w.cell? (a'.add (i * 3 + 2)) = some (.int .i64 z) := by
      intro i him
      obtain ⟨cs', hc, ht'⟩ := hi i (by omega)
      rw [cells53] at hc
      obtain ⟨k, y, z, rfl⟩ := open_op ht'
      obtain ⟨_, _, hat⟩ := World.cells?_some hc
      refine ⟨k, y, z, ?_, ?_, ?_⟩
      · have := hat 0 (by omega); rw [Go.Deep.add_add] at this; simpa using this
      · have := hat 1 (by omega); rw [Go.Deep.add_add] at this; simpa using this
      · have := hat 2 (by omega); rw [Go.Deep.add_add] at this; simpa using this
    refine ⟨(List.range n).map fun i => (intOf ((w.cell? (a'.add (i * 3))).getD undef), intOf ((w.cell? (a'.add (i * 3 + 1))).getD undef), intOf ((w.cell? (a'.add (i * 3 + 2))).getD undef)), by simp, by omega, some a', c, by simp, fun h0 => ?_⟩
    have h1 : 0 < n := by simpa using h0
    obtain ⟨b, off, sp⟩ := a'
    obtain ⟨k0, n0, m0, c0, _⟩ := hcell 0 h1
    obtain rfl : sp = none := by
      cases sp with
      | none => rfl
      | some q => simp [Addr.add, World.cell?] at c0; split at c0 <;> simp at c0
    have hadd : ∀ i, (⟨b, off, none⟩ : Addr).add i = ⟨b, off + i, none⟩ := fun i => by unfold Addr.add; split <;> simp_all
    refine ⟨b, off, rfl, World.block_lt_of_cell? w _ c0, fun i hi' => ?_⟩
    obtain ⟨k, y, z, d0, d1, d2⟩ := hcell i (by simpa using hi')
    simp only [hadd] at d0 d1 d2
    simp only [List.getElem_map, List.getElem_range, hadd]
    rw [Nat.add_assoc, Nat.add_assoc] at *
    rw [d0, d1, d2]
    exact ⟨rfl, rfl, rfl⟩
end
end Go.Proofs.Ytjdkaagkaambkaa
