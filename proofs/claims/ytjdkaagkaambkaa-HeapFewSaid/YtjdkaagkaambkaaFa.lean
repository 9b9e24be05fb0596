/- The heap of sixteen-bit numbers whose function counts its calls: what it holds in memory. -/
import Derived.Test.YtjdkaagkaambkaaC
namespace Go.Proofs.Ytjdkaagkaambkaa
open Go.RowKit Go.Proofs

/-- The function value that counts. -/
abbrev cntF (q : Nat) : Value := .func (.func 18) #[] #[.pointer (some ⟨q, 0, none⟩)]
theorem cnt_less (q : Nat) (a b k : Int) (w : World) (hq : w.heap[q]? = some (.cells #[.int .i64 k] 3 (0, 0))) (hk : 0 ≤ k) (hk2 : k ≤ 1000000000) :
    Calls Try.prog 18 #[.int .u16 a, .int .u16 b, .pointer (some ⟨q, 0, none⟩)] w fun e w' => e = .returned (.bool (decide (a < b))) ∧ w.setCell ⟨q, 0, none⟩ (.int .i64 (k + 1)) = w' := by
  have c0 : w.cell? ⟨q, 0, none⟩ = some (.int .i64 k) := cell_of_row w q 0 _ _ _ hq
  have f0 : w.frozen? ⟨q, 0, none⟩ = false := by simp [World.frozen?, hq]
  have hw : IntKind.i64.wrap (k + 1) = k + 1 := IntWalk.i64_in _ (by omega)
  clear hq
  go_enter Try.func18, Try.ntmps18
  go_wp2
  go_ret
  exact ⟨rfl, rfl⟩
theorem run18 : RunOK 18 := fun args w => by go_simp

def flatU : List (Int × Int) → List Value
  | [] => []
  | x :: l => .int .u16 x.1 :: .int .i64 x.2 :: flatU l
theorem flatU_len (l : List (Int × Int)) : (flatU l).length = l.length * 2 := by
  induction l with
  | nil => rfl
  | cons x l ih => simp [flatU, ih]; omega
theorem flatU_append (l m : List (Int × Int)) : flatU (l ++ m) = flatU l ++ flatU m := by
  induction l with
  | nil => rfl
  | cons x l ih => simp [flatU, ih]
theorem flatU_get (l : List (Int × Int)) : ∀ i (h : i < l.length), (flatU l)[i * 2]? = some (.int .u16 l[i].1) ∧ (flatU l)[i * 2 + 1]? = some (.int .i64 l[i].2) := by
  induction l with
  | nil => intro i h; cases h
  | cons x l ih =>
    intro i h
    cases i with
    | zero => simp [flatU]
    | succ i =>
      have := ih i (by simpa using h)
      simp only [flatU, Nat.succ_mul]
      simpa using this
theorem flatU_set (l : List (Int × Int)) (x : Int × Int) : ∀ i, i < l.length → ((flatU l).set (i * 2) (.int .u16 x.1)).set (i * 2 + 1) (.int .i64 x.2) = flatU (l.set i x) := by
  induction l with
  | nil => intro i h; cases h
  | cons y l ih =>
    intro i h
    cases i with
    | zero => simp [flatU]
    | succ i =>
      have := ih i (by simpa using h)
      simp only [flatU, Nat.succ_mul, List.set_cons_succ]
      simpa using this
theorem flatU_take (l : List (Int × Int)) : ∀ m, (flatU l).take (m * 2) = flatU (l.take m) := by
  induction l with
  | nil => intro m; simp [flatU]
  | cons x l ih =>
    intro m
    cases m with
    | zero => simp [flatU]
    | succ m => simp [flatU, Nat.succ_mul, ih m]

def RowU (B : Nat) (w : World) (v : Value) (n : Nat) (xs : List (Int × Int)) : Prop := xs.length = n ∧ w.ownsRow B 73 2 v n (flatU xs)

/-- The heap's struct at block p, the counter at q, n items. -/
structure HU (B : Nat) (w : World) (p q : Nat) (v : Value) (n : Nat) (nx k : Int) : Prop where
  st : w.heap[p]? = some (.cells #[cntF q, v, .int .i64 nx] 71 (0, 0))
  row : ∃ xs, RowU B w v n xs
  cnt : w.heap[q]? = some (.cells #[.int .i64 k] 3 (0, 0))
  hBp : B ≤ p
  hBq : B ≤ q
  small : n ≤ 1000000

variable {B : Nat} {w w' : World} {p q : Nat} {v : Value} {n : Nat} {nx k : Int}
theorem HU.lt (h : HU B w p q v n nx k) : p < w.heap.size := (Array.getElem?_eq_some_iff.1 h.st).1
theorem HU.ltq (h : HU B w p q v n nx k) : q < w.heap.size := (Array.getElem?_eq_some_iff.1 h.cnt).1
theorem HU.pq (h : HU B w p q v n nx k) : p ≠ q := by
  rintro rfl
  have a := h.st
  rw [h.cnt] at a
  simp at a
theorem HU.apart (h : HU B w p q v n nx k) : v.ownBlock ≠ some p := by
  intro e
  obtain ⟨xs, _, hr⟩ := h.row
  rcases hr.2 with ⟨rfl, _⟩ | ⟨g, cap, cur, rfl, _, hg, _⟩
  · simp [Value.ownBlock] at e
  · simp [Value.ownBlock] at e
    subst e
    have := h.st
    rw [hg] at this
    simp at this
theorem HU.apartq (h : HU B w p q v n nx k) : v.ownBlock ≠ some q := by
  intro e
  obtain ⟨xs, _, hr⟩ := h.row
  rcases hr.2 with ⟨rfl, _⟩ | ⟨g, cap, cur, rfl, _, hg, _⟩
  · simp [Value.ownBlock] at e
  · simp [Value.ownBlock] at e
    subst e
    have := h.cnt
    rw [hg] at this
    simp at this
theorem HU.cells (h : HU B w p q v n nx k) :
    w.cell? ⟨p, 0, none⟩ = some (cntF q) ∧ w.cell? ⟨p, 1, none⟩ = some v ∧ w.cell? ⟨p, 2, none⟩ = some (.int .i64 nx) ∧ ∀ o, w.frozen? ⟨p, o, none⟩ = false :=
  ⟨cell_of_row w p 0 _ _ _ h.st, cell_of_row w p 1 _ _ _ h.st, cell_of_row w p 2 _ _ _ h.st, fun o => by simp [World.frozen?, h.st]⟩
theorem HU.slice (h : HU B w p q v n nx k) : ∃ ao cap, v = .slice ao n cap := by
  obtain ⟨xs, _, hr⟩ := h.row
  rcases hr.2 with ⟨h1, h2⟩ | ⟨g, cap, cur, h1, _⟩
  · exact ⟨none, 0, by rw [h1, h2]⟩
  · exact ⟨_, cap, h1⟩
theorem HU.form (h : HU B w p q v n nx k) (h0 : 0 < n) : ∃ g cap, v = .slice (some ⟨g, 0, none⟩) n cap ∧ g < w.heap.size ∧ B ≤ g ∧ n ≤ cap ∧ cap ≤ maxLen := by
  obtain ⟨xs, _, hr⟩ := h.row
  rcases hr.2 with ⟨_, h1⟩ | ⟨g, cap, cur, rfl, hb, hg, h2, h3, _⟩
  · omega
  · exact ⟨g, cap, rfl, (Array.getElem?_eq_some_iff.1 hg).1, hb, h2, h3⟩
theorem HU.own (h : HU B w p q v n nx k) : ∀ g, v.ownBlock = some g → B ≤ g ∧ g < w.heap.size := by
  obtain ⟨xs, _, hr⟩ := h.row
  exact fun g hg => hr.lt g hg
theorem RowU.item {g cap : Nat} {xs : List (Int × Int)} (h : RowU B w (.slice (some ⟨g, 0, none⟩) n cap) n xs) (i : Nat) (hi : i < n) :
    w.cell? ⟨g, i * 2, none⟩ = some (.int .u16 (xs[i]'(by rw [h.1]; exact hi)).1) ∧ w.cell? ⟨g, i * 2 + 1, none⟩ = some (.int .i64 (xs[i]'(by rw [h.1]; exact hi)).2) := by
  have hg := flatU_get xs i (by rw [h.1]; exact hi)
  rw [h.2.cellAt _ (by omega), h.2.cellAt _ (by omega)]
  exact hg
theorem HU.below (h : HU B w p q v n nx k) (hb : Below w.heap.size w w') : HU B w' p q v n nx k := by
  obtain ⟨xs, hl, hr⟩ := h.row
  exact ⟨by rw [hb.block _ h.lt]; exact h.st, ⟨xs, hl, hr.kept (row := none) ⟨hb.os, hb.tape, hb.output, hb.size, fun k hk _ => hb.block k hk⟩ (by cases v.ownBlock <;> simp)⟩, by rw [hb.block _ h.ltq]; exact h.cnt, h.hBp, h.hBq, h.small⟩
/-- The counter alone has changed (and new blocks were made). -/
theorem HU.count {k' : Int} (h : HU B w p q v n nx k) (hg : w.grownBy w' (some q)) (hc : w'.heap[q]? = some (.cells #[.int .i64 k'] 3 (0, 0))) : HU B w' p q v n nx k' ∧ Below B w w' := by
  obtain ⟨xs, hl, hr⟩ := h.row
  have hB : B ≤ w.heap.size := Nat.le_trans h.hBp (Nat.le_of_lt h.lt)
  exact ⟨⟨by rw [hg.block p h.lt (fun e => h.pq (Option.some.inj e))]; exact h.st, ⟨xs, hl, hr.kept hg (.inr h.apartq)⟩, hc, h.hBp, h.hBq, h.small⟩, (Below.refl B w).grown hg hB (fun k hk => by obtain rfl := Option.some.inj hk; exact h.hBq)⟩
/-- The row alone has changed. -/
theorem HU.rows {ys : List (Int × Int)} (h : HU B w p q v n nx k) (hg : w.grownBy w' v.ownBlock) (hr : RowU B w' v n ys) : HU B w' p q v n nx k ∧ Below B w w' := by
  have hB : B ≤ w.heap.size := Nat.le_trans h.hBp (Nat.le_of_lt h.lt)
  exact ⟨⟨by rw [hg.block p h.lt (Ne.symm h.apart)]; exact h.st, ⟨ys, hr⟩, by rw [hg.block q h.ltq (Ne.symm h.apartq)]; exact h.cnt, h.hBp, h.hBq, h.small⟩, (Below.refl B w).grown hg hB (fun g hg' => (h.own g hg').1)⟩
theorem RowU.set {g cap : Nat} {xs : List (Int × Int)} (h : RowU B w (.slice (some ⟨g, 0, none⟩) n cap) n xs) (i : Nat) (hi : i < n) (x : Int × Int) :
    RowU B ((w.setCell ⟨g, i * 2, none⟩ (.int .u16 x.1)).setCell ⟨g, i * 2 + 1, none⟩ (.int .i64 x.2)) (.slice (some ⟨g, 0, none⟩) n cap) n (xs.set i x) ∧
      w.grownBy ((w.setCell ⟨g, i * 2, none⟩ (.int .u16 x.1)).setCell ⟨g, i * 2 + 1, none⟩ (.int .i64 x.2)) (some g) := by
  obtain ⟨h1, g1⟩ := World.ownsRow.stored h.2 (i * 2) (.int .u16 x.1)
  obtain ⟨h2, g2⟩ := World.ownsRow.stored h1 (i * 2 + 1) (.int .i64 x.2)
  rw [flatU_set xs x i (by rw [h.1]; exact hi)] at h2
  exact ⟨⟨by rw [List.length_set]; exact h.1, h2⟩, grown_trans g1 g2⟩
theorem RowU.free {g cap : Nat} {xs : List (Int × Int)} (h : RowU B w (.slice (some ⟨g, 0, none⟩) n cap) n xs) (o : Nat) : w.frozen? ⟨g, o, none⟩ = false := h.2.frozenAt o
end Go.Proofs.Ytjdkaagkaambkaa
