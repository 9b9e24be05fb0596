/- HeapPlays: the function that marks, and what the loop keeps. -/
import Derived.Test.YtjdkaagkaambkaaR
import Derived.Test.YtjdkaagkaambkaaT
namespace Go.Proofs.Ytjdkaagkaambkaa
open Go.RowKit Go.Proofs

def playM (name : Int) (x : Int × Int) : Bool := x.2.tmod 3 == name.tmod 3
theorem play_match (ob : Nat) (name k n : Int) (w : World) (hc : w.cell? ⟨ob, 2, none⟩ = some (.int .i64 name)) (hlt : ob < w.heap.size) :
    Calls Try.prog 28 #[.agg #[.int .i64 k, .int .i64 n], .pointer (some ⟨ob, 0, none⟩)] w fun e w' => e = .returned (.bool (playM name (k, n))) ∧ Below w.heap.size w w' := by
  go_enter Try.func28, Try.ntmps28
  go_wp2
  go_ret
  exact ⟨by simp [playM], (Below.refl _ _).alloc (Nat.le_refl _) _⟩
theorem run28 : RunOK 28 := fun args w => by go_simp
theorem playOK (ob : Nat) (name : Int) : MatchOK 28 #[.pointer (some ⟨ob, 0, none⟩)] (playM name) (fun W => W.cell? ⟨ob, 2, none⟩ = some (.int .i64 name)) :=
  ⟨fun k n W h => play_match ob name k n W h (World.block_lt_of_cell? W _ h), fun _ _ h hb => cell_later hb h, run28⟩

/-- A block of another type is none of the heap's. -/
theorem blk_keep {p f I ty : Nat} {w w' : World} {v v' : Value} {xs : Array It} {nx : Int} {cs : Array Value} (h : w.heap[I]? = some (.cells cs ty (0, 0))) (k : HeapAt w p f v xs nx) (s : Stp p w v w' v') (h1 : ty ≠ 65) (h2 : ty ≠ 67) : w'.heap[I]? = some (.cells cs ty (0, 0)) := by
  rw [s.block I (Array.getElem?_eq_some_iff.1 h).1 ?_ ?_]
  · exact h
  · rintro rfl
    have := k.st
    rw [h] at this
    simp at this
    exact h1 this.2
  · intro e
    rcases k.row.2 with ⟨rfl, _⟩ | ⟨g', cap', cur', rfl, _, hg', _⟩
    · simp [Value.ownBlock] at e
    · simp [Value.ownBlock] at e
      subst e
      rw [h] at hg'
      simp at hg'
      exact h2 hg'.2

/-- The heap, the list beside it, and the frame. -/
structure PState (w : World) (p q : Nat) (t4 : Value) (wx : World) (m : List (Int × Int)) (xs : Array It) (nx : Int) (v : Value) : Prop where
  hp : HeapAt wx p 23 v xs nx
  inv : Inv m xs nx
  n0 : 0 ≤ nx
  n1 : nx ≤ q
  sz : xs.size ≤ q
  row : Row2 w.heap.size wx t4 m
  bel : Below w.heap.size w wx
  own : ∀ k, v.ownBlock = some k → w.heap.size ≤ k
def PS (w : World) (p q : Nat) (t4 : Value) (wx : World) : Prop := ∃ m xs nx v, PState w p q t4 wx m xs nx v

theorem PState.below {w wx wy : World} {p q : Nat} {t4 : Value} {m : List (Int × Int)} {xs : Array It} {nx : Int} {v : Value} (h : PState w p q t4 wx m xs nx v) (hb : Below wx.heap.size wx wy) : PState w p q t4 wy m xs nx v :=
  ⟨h.hp.below hb, h.inv, h.n0, h.n1, h.sz, h.row.below hb, h.bel.trans (hb.mono h.bel.size), h.own⟩
theorem PState.more {w wx : World} {p q q' : Nat} {t4 : Value} {m : List (Int × Int)} {xs : Array It} {nx : Int} {v : Value} (h : PState w p q t4 wx m xs nx v) (hq : q ≤ q') : PState w p q' t4 wx m xs nx v :=
  ⟨h.hp, h.inv, h.n0, by have := h.n1; omega, by have := h.sz; omega, h.row, h.bel, h.own⟩

/-- Stores into a block that is neither the heap's nor the list's. -/
theorem PState.other {w wx wy : World} {p q X : Nat} {t4 : Value} {m : List (Int × Int)} {xs : Array It} {nx : Int} {v : Value} (h : PState w p q t4 wx m xs nx v) (hg : wx.grownBy wy (some X)) (hX : w.heap.size ≤ X) (h1 : X ≠ p) (h2 : v.ownBlock ≠ some X) (h3 : t4.ownBlock ≠ some X) : PState w p q t4 wy m xs nx v := by
  refine ⟨⟨by rw [hg.block p h.hp.lt (fun e => h1 (Option.some.inj e).symm)]; exact h.hp.st, ?_, h.hp.small⟩, h.inv, h.n0, h.n1, h.sz, ?_, h.bel.grown hg h.bel.size (fun k hk => by obtain rfl := Option.some.inj hk; exact hX), h.own⟩
  · exact h.hp.row.kept hg (.inr h2)
  · exact World.ownsRow.kept h.row hg (.inr h3)
theorem grown_set (w : World) (X o : Nat) (u : Value) : w.grownBy (w.setCell ⟨X, o, none⟩ u) (some X) :=
  ⟨rfl, rfl, rfl, by simp, fun k _ hk => heap_setCell_other w ⟨X, o, none⟩ k _ (fun e => hk (by rw [e]))⟩

/-- A slice of operations that reads as l, wherever it lies. -/
def Arr3 (w : World) (v : Value) (l : List (Int × Int × Int)) : Prop := ∃ ao cap, v = .slice ao l.length cap ∧
  (0 < l.length → ∃ b off, ao = some ⟨b, off, none⟩ ∧ b < w.heap.size ∧ ∀ i (h : i < l.length), w.cell? ⟨b, off + i * 3, none⟩ = some (.int .i64 l[i].1) ∧ w.cell? ⟨b, off + i * 3 + 1, none⟩ = some (.int .i64 l[i].2.1) ∧ w.cell? ⟨b, off + i * 3 + 2, none⟩ = some (.int .i64 l[i].2.2))
theorem Arr3.below {w w' : World} {v : Value} {l : List (Int × Int × Int)} (h : Arr3 w v l) (hb : Below w.heap.size w w') : Arr3 w' v l := by
  obtain ⟨ao, cap, hv, h⟩ := h
  refine ⟨ao, cap, hv, fun h0 => ?_⟩
  obtain ⟨b, off, ha, hlt, hc⟩ := h h0
  exact ⟨b, off, ha, Nat.lt_of_lt_of_le hlt hb.size, fun i hi => ⟨by rw [(bcell hb).1 _ _ hlt]; exact (hc i hi).1, by rw [(bcell hb).1 _ _ hlt]; exact (hc i hi).2.1, by rw [(bcell hb).1 _ _ hlt]; exact (hc i hi).2.2⟩⟩
theorem Arr3.at {w : World} {ao : Option Addr} {n cap : Nat} {l : List (Int × Int × Int)} (h : Arr3 w (.slice ao n cap) l) (j : Nat) (hj : j < l.length) :
    ∃ bb off, ao = some ⟨bb, off, none⟩ ∧ bb < w.heap.size ∧ w.cell? ⟨bb, off + j * 3, none⟩ = some (.int .i64 l[j].1) ∧ w.cell? ⟨bb, off + j * 3 + 1, none⟩ = some (.int .i64 l[j].2.1) ∧ w.cell? ⟨bb, off + j * 3 + 2, none⟩ = some (.int .i64 l[j].2.2) := by
  obtain ⟨ao', cap', e, h⟩ := h
  simp only [Value.slice.injEq] at e
  obtain ⟨rfl, _, _⟩ := e
  obtain ⟨bb, off, h1, h2, h3⟩ := h (by omega)
  exact ⟨bb, off, h1, h2, h3 j hj⟩
theorem set2 {w : World} {X : Nat} {x y : Value} (a b : Value) (h : w.heap[X]? = some (.cells #[x, y] 26 (0, 0))) : ((w.setCell ⟨X, 0, none⟩ a).setCell ⟨X, 1, none⟩ b).heap[X]? = some (.cells #[a, b] 26 (0, 0)) := by
  have h1 := heap_setCell_same w X 0 _ _ a h
  have h2 := heap_setCell_same _ X 1 _ _ b h1
  simpa using h2
def TrueEndPl (w : World) (e : Ending) (w' : World) : Prop := e = .returned (.bool true) ∧ Below w.heap.size w w'
end Go.Proofs.Ytjdkaagkaambkaa
