/- The heap in memory: what its struct and its array hold; the comparison, 'before', 'swap'. -/
import Derived.Test.YtjdkaagkaambkaaProg
import Derived.Test.YtjdkaagkaambkaaM
import Derived.WalkKit
import Derived.WalkLawsBesides
import Derived.WalkSpells
import Derived.Deep.LoopGhost
import Derived.Deep.QuietTactic
import Derived.Deep.RegionHeld3
import Derived.Deep.DeepCutAuto
import Derived.Deep.Light
import Derived.Deep.AppendLies
import Derived.BigRegion
import Derived.BigQuiet
import Derived.Lib.Hide
import Derived.Outline
namespace Go.Proofs.Ytjdkaagkaambkaa
open Go.RowKit Go.Proofs

theorem bcell {W w1 : World} (hb : Below W.heap.size W w1) : (∀ b o, b < W.heap.size → w1.cell? ⟨b, o, none⟩ = W.cell? ⟨b, o, none⟩) ∧ (∀ b o, b < W.heap.size → w1.frozen? ⟨b, o, none⟩ = W.frozen? ⟨b, o, none⟩) :=
  ⟨fun b o h => hb.cell (p := ⟨b, o, none⟩) h, fun b o h => hb.frozen (p := ⟨b, o, none⟩) h⟩

/-- The worlds in which all that stood in w stands as it did. -/
def Ext (w : World) : Type := { u : World // Below w.heap.size w u }
instance Ext.inst (w : World) : Nonempty (Ext w) := ⟨⟨w, Below.refl _ _⟩⟩
theorem Ext.drew (w : World) : ∃ u : Ext w, { w with drawn := w.drawn + 1 } = u.1 := ⟨⟨w.drew, (Below.refl _ _).drew⟩, rfl⟩
theorem Ext.cell {w : World} {a : Addr} {v : Value} (h : w.cell? a = some v) (u : Ext w) : u.1.cell? a = some v := cell_later u.2 h
theorem Ext.call {w : World} (u : Ext w) {f : FuncId} {args : Array Value} {v : Value} (h : Calls Try.prog f args u.1 fun e w' => e = .returned v ∧ Below u.1.heap.size u.1 w') :
    Calls Try.prog f args u.1 fun e w'' => e = .returned v ∧ ∃ u' : Ext w, w'' = u'.1 :=
  h.mono fun _ _ ⟨he, hb⟩ => ⟨he, ⟨_, u.2.trans (hb.mono u.2.size)⟩, rfl⟩
theorem wp_region_ext {id : Nat} {Q : Exit → Act → World → Prop} {a : Act} {w : World} {l : List Oper} (hm : Try.prog.follows .mixedOrders = true) (hB : Region.lexB .any l.toArray = true)
    (h : wpQuiet Try.prog l.toArray (fun w' => ∃ u : Ext w, w' = u.1) (fun a' => ∀ w', (∃ u : Ext w, w' = u.1) → Q .normal a' w') l a) : (Code.region id l.toArray true).wp Try.prog Q a w :=
  wp_region_quiet (C := fun w' => ∃ u : Ext w, w' = u.1) hm hB (Ext.drew w) (by simpa using h)

theorem two_alloc (w : World) (o1 o2 : Obj) : Below w.heap.size w (((w.alloc o1).alloc o2).drew) ∧ (((w.alloc o1).alloc o2).drew).heap[w.heap.size]? = some o1 ∧ (((w.alloc o1).alloc o2).drew).heap[w.heap.size + 1]? = some o2 ∧ (((w.alloc o1).alloc o2).drew).heap.size = w.heap.size + 2 := by
  refine ⟨(((Below.refl _ _).alloc (Nat.le_refl _) _).alloc (by simp) _).drew, ?_, ?_, ?_⟩
  · show ((w.alloc o1).alloc o2).heap[w.heap.size]? = _
    rw [heap_alloc_old _ _ (by simp), heap_alloc_new]
  · show ((w.alloc o1).alloc o2).heap[w.heap.size + 1]? = _
    have := heap_alloc_new (w.alloc o1) o2
    simpa using this
  · show ((w.alloc o1).alloc o2).heap.size = _
    simp

def Boxes (w : World) (x y : Obj) (t7 t8 : Value) (w' : World) : Prop := ∃ X Y : Nat, t7 = .pointer (some ⟨X, 0, none⟩) ∧ t8 = .pointer (some ⟨Y, 0, none⟩) ∧ Below w.heap.size w w' ∧ w.heap.size ≤ X ∧ w.heap.size ≤ Y ∧ X < w'.heap.size ∧ Y < w'.heap.size ∧
    w'.heap[X]? = some x ∧ w'.heap[Y]? = some y
theorem boxes1 (w : World) (x y : Obj) : Boxes w x y (.pointer (some ⟨w.heap.size, 0, none⟩)) (.pointer (some ⟨w.heap.size + 1, 0, none⟩)) (((w.alloc x).alloc y).drew) := by
  obtain ⟨h1, h2, h3, h4⟩ := two_alloc w x y
  exact ⟨_, _, rfl, rfl, h1, by omega, by omega, by omega, by omega, h2, h3⟩
theorem boxes2 (w : World) (x y : Obj) : Boxes w x y (.pointer (some ⟨w.heap.size + 1, 0, none⟩)) (.pointer (some ⟨w.heap.size, 0, none⟩)) (((w.alloc y).alloc x).drew) := by
  obtain ⟨h1, h2, h3, h4⟩ := two_alloc w y x
  exact ⟨_, _, rfl, rfl, h1, by omega, by omega, by omega, by omega, h3, h2⟩

/-- An element of the heap's array: key, name, number of its push. -/
structure It where
  k : Int
  n : Int
  s : Int
deriving Inhabited

def It.cells (x : It) : List Value := [.int .i64 x.k, .int .i64 x.n, .int .i64 x.s]
def flat : List It → List Value
  | [] => []
  | x :: l => .int .i64 x.k :: .int .i64 x.n :: .int .i64 x.s :: flat l
theorem flat_len (l : List It) : (flat l).length = l.length * 3 := by
  induction l with
  | nil => rfl
  | cons x l ih => simp [flat, ih]; omega
theorem flat_append (l m : List It) : flat (l ++ m) = flat l ++ flat m := by
  induction l with
  | nil => rfl
  | cons x l ih => simp [flat, ih]
theorem flat_get (l : List It) : ∀ i (h : i < l.length), (flat l)[i * 3]? = some (.int .i64 l[i].k) ∧ (flat l)[i * 3 + 1]? = some (.int .i64 l[i].n) ∧ (flat l)[i * 3 + 2]? = some (.int .i64 l[i].s) := by
  induction l with
  | nil => intro i h; cases h
  | cons x l ih =>
    intro i h
    cases i with
    | zero => simp [flat]
    | succ i =>
      have := ih i (by simpa using h)
      simp only [flat, Nat.succ_mul]
      simpa using this
theorem flat_set (l : List It) (x : It) : ∀ i, i < l.length → (((flat l).set (i * 3) (.int .i64 x.k)).set (i * 3 + 1) (.int .i64 x.n)).set (i * 3 + 2) (.int .i64 x.s) = flat (l.set i x) := by
  induction l with
  | nil => intro i h; cases h
  | cons y l ih =>
    intro i h
    cases i with
    | zero => simp [flat]
    | succ i =>
      have := ih i (by simpa using h)
      simp only [flat, Nat.succ_mul, List.set_cons_succ]
      simpa using this

/-- The slice value v owns the elements xs. -/
def Row (w : World) (v : Value) (xs : Array It) : Prop := w.ownsRow 0 67 3 v xs.size (flat xs.toList)

/-- The heap's struct at block p, its array in v. -/
structure HeapAt (w : World) (p fid : Nat) (v : Value) (xs : Array It) (nx : Int) : Prop where
  st : w.heap[p]? = some (.cells #[.func (.func fid) #[] #[], v, .int .i64 nx] 65 (0, 0))
  row : Row w v xs
  small : xs.size ≤ 1000000

theorem HeapAt.lt {w : World} {p fid : Nat} {v : Value} {xs : Array It} {nx : Int} (h : HeapAt w p fid v xs nx) : p < w.heap.size := by
  have := h.st
  exact (Array.getElem?_eq_some_iff.1 this).1
theorem HeapAt.apart {w : World} {p fid : Nat} {v : Value} {xs : Array It} {nx : Int} (h : HeapAt w p fid v xs nx) : v.ownBlock ≠ some p := by
  intro e
  rcases h.row.2 with ⟨rfl, _⟩ | ⟨g, cap, cur, rfl, _, hg, _⟩
  · simp [Value.ownBlock] at e
  · simp [Value.ownBlock] at e
    subst e
    have := h.st
    rw [hg] at this
    simp at this
theorem HeapAt.cells {w : World} {p fid : Nat} {v : Value} {xs : Array It} {nx : Int} (h : HeapAt w p fid v xs nx) :
    w.cell? ⟨p, 0, none⟩ = some (.func (.func fid) #[] #[]) ∧ w.cell? ⟨p, 1, none⟩ = some v ∧ w.cell? ⟨p, 2, none⟩ = some (.int .i64 nx) ∧ ∀ o, w.frozen? ⟨p, o, none⟩ = false :=
  ⟨cell_of_row w p 0 _ _ _ h.st, cell_of_row w p 1 _ _ _ h.st, cell_of_row w p 2 _ _ _ h.st, fun o => by simp [World.frozen?, h.st]⟩
theorem HeapAt.form {w : World} {p fid : Nat} {v : Value} {xs : Array It} {nx : Int} (h : HeapAt w p fid v xs nx) (h0 : 0 < xs.size) :
    ∃ g cap, v = .slice (some ⟨g, 0, none⟩) xs.size cap ∧ g < w.heap.size ∧ xs.size ≤ cap ∧ cap ≤ maxLen := by
  rcases h.row.2 with ⟨_, h1⟩ | ⟨g, cap, cur, rfl, _, hg, h2, h3, _⟩
  · omega
  · exact ⟨g, cap, rfl, (Array.getElem?_eq_some_iff.1 hg).1, h2, h3⟩
theorem HeapAt.item {w : World} {p fid g n cap : Nat} {xs : Array It} {nx : Int} (h : HeapAt w p fid (.slice (some ⟨g, 0, none⟩) n cap) xs nx) (i : Nat) (hi : i < xs.size) :
    w.cell? ⟨g, i * 3, none⟩ = some (.int .i64 xs[i]!.k) ∧ w.cell? ⟨g, i * 3 + 1, none⟩ = some (.int .i64 xs[i]!.n) ∧ w.cell? ⟨g, i * 3 + 2, none⟩ = some (.int .i64 xs[i]!.s) := by
  have hr := h.row
  obtain rfl : n = xs.size := by
    rcases hr.2 with ⟨h1, _⟩ | ⟨g, cap, cur, h1, _⟩
    · simp at h1
    · simp at h1; exact h1.2.1
  have hg := flat_get xs.toList i (by simpa using hi)
  have e : xs[i]! = xs.toList[i]'(by simpa using hi) := by rw [Hp.gp _ _ hi]; simp
  rw [hr.cellAt _ (by omega), hr.cellAt _ (by omega), hr.cellAt _ (by omega), e]
  exact hg
theorem HeapAt.free {w : World} {p fid g n cap : Nat} {xs : Array It} {nx : Int} (h : HeapAt w p fid (.slice (some ⟨g, 0, none⟩) n cap) xs nx) (o : Nat) : w.frozen? ⟨g, o, none⟩ = false := by
  have hr := h.row
  obtain rfl : n = xs.size := by
    rcases hr.2 with ⟨h1, _⟩ | ⟨g, cap, cur, h1, _⟩
    · simp at h1
    · simp at h1; exact h1.2.1
  exact hr.frozenAt o
theorem HeapAt.below {w w' : World} {p fid : Nat} {v : Value} {xs : Array It} {nx : Int} (h : HeapAt w p fid v xs nx) (hb : Below w.heap.size w w') : HeapAt w' p fid v xs nx := by
  refine ⟨by rw [hb.block _ h.lt]; exact h.st, ?_, h.small⟩
  exact h.row.kept (row := none) ⟨hb.os, hb.tape, hb.output, hb.size, fun k hk _ => hb.block k hk⟩ (by cases v.ownBlock <;> simp)
theorem HeapAt.grown {w w' : World} {p fid : Nat} {v : Value} {xs ys : Array It} {nx : Int} (h : HeapAt w p fid v xs nx) (hg : w.grownBy w' v.ownBlock) (hr : Row w' v ys) (hs : ys.size = xs.size) : HeapAt w' p fid v ys nx :=
  ⟨by rw [hg.block _ h.lt (Ne.symm h.apart)]; exact h.st, hr, by rw [hs]; exact h.small⟩

/-- Frames: what is not the row stands as it did. -/
theorem grown_refl (w : World) (r : Option Nat) : w.grownBy w r := ⟨rfl, rfl, rfl, Nat.le_refl _, fun _ _ _ => rfl⟩
theorem grown_below {w a b : World} {r : Option Nat} (h : w.grownBy a r) (hb : Below a.heap.size a b) : w.grownBy b r :=
  ⟨hb.os.trans h.os, hb.tape.trans h.tape, hb.output.trans h.output, Nat.le_trans h.size hb.size, fun k hk hne => (hb.block k (by have := h.size; omega)).trans (h.block k hk hne)⟩
theorem grown_trans {w a b : World} {r : Option Nat} (h : w.grownBy a r) (hb : a.grownBy b r) : w.grownBy b r :=
  ⟨hb.os.trans h.os, hb.tape.trans h.tape, hb.output.trans h.output, Nat.le_trans h.size hb.size, fun k hk hne => (hb.block k (by have := h.size; omega) hne).trans (h.block k hk hne)⟩

/-- The order of the elements: by the key (through K), then by the number of the push. -/
def lt (K : Int → Int) (x y : It) : Bool := decide (K x.k < K y.k) || (!decide (K y.k < K x.k) && decide (x.s < y.s))
theorem lt_swo (K : Int → Int) : Hp.SWO (lt K) := by
  constructor
  · intro a b h
    simp [lt] at h ⊢
    omega
  · intro a b c h1 h2
    simp [lt] at h1 h2 ⊢
    omega

/-- The function with number fid compares by the keys. -/
def LessOK (fid : Nat) (K : Int → Int) : Prop := ∀ (a b c d : Int) (w : World),
    Calls Try.prog fid #[.agg #[.int .i64 a, .int .i64 b], .agg #[.int .i64 c, .int .i64 d]] w fun e w' => e = .returned (.bool (decide (K a < K c))) ∧ Below w.heap.size w w'
def RunOK (fid : Nat) : Prop := ∀ args w, Sem.run Try.prog (callFunc fid args) w = .ok (.enter fid args) w

theorem byKey_less : LessOK 23 (fun x => x) := by
  intro a b c d w
  go_enter Try.func23, Try.ntmps23
  go_wp2
  go_ret
  exact ⟨rfl, ((Below.refl _ _).alloc (Nat.le_refl _) _).alloc (by simp) _⟩
theorem greater_less : LessOK 15 (fun x => -x) := by
  intro a b c d w
  go_enter Try.func15, Try.ntmps15
  go_wp2
  go_ret
  refine ⟨?_, ((Below.refl _ _).alloc (Nat.le_refl _) _).alloc (by simp) _⟩
  have : decide (-a < -c) = decide (c < a) := by by_cases h : c < a <;> simp [h]
  rw [this]
  rfl
theorem run23 : RunOK 23 := fun args w => by go_simp
theorem run15 : RunOK 15 := fun args w => by go_simp

set_option maxHeartbeats 4000000 in
set_option maxRecDepth 1000000 in
theorem before_raw (fid : Nat) (K : Int → Int) (hL : LessOK fid K) (hrun : ∀ args w, Sem.run Try.prog (callFunc fid args) w = .ok (.enter fid args) w) (p g n cap i j : Nat) (a b c a' b' c' : Int) (w : World) (hi : i < n) (hj : j < n) (_hn : n ≤ 1000000)
   (hp : p < w.heap.size) (hg : g < w.heap.size) (h0 : w.cell? ⟨p, 0, none⟩ = some (.func (.func fid) #[] #[]))
   (h1 : w.cell? ⟨p, 1, none⟩ = some (.slice (some ⟨g, 0, none⟩) n cap))
   (i0 : w.cell? ⟨g, i * 3, none⟩ = some (.int .i64 a)) (i1 : w.cell? ⟨g, i * 3 + 1, none⟩ = some (.int .i64 b)) (i2 : w.cell? ⟨g, i * 3 + 2, none⟩ = some (.int .i64 c))
   (j0 : w.cell? ⟨g, j * 3, none⟩ = some (.int .i64 a')) (j1 : w.cell? ⟨g, j * 3 + 1, none⟩ = some (.int .i64 b')) (j2 : w.cell? ⟨g, j * 3 + 2, none⟩ = some (.int .i64 c')) :
    Calls Try.prog 40 #[.pointer (some ⟨p, 0, none⟩), .int .i64 i, .int .i64 j] w fun e w' => e = .returned (.bool (decide (K a < K a') || (!decide (K a' < K a) && decide (c < c')))) ∧ Below w.heap.size w w' := by
  go_enter Try.func40, Try.ntmps40
  go_upto_region 1 with fail
  go_cut [7, 8] (fun t7 t8 w' => Boxes w (.cells #[.int .i64 a, .int .i64 b, .int .i64 c] 67 (0, 0)) (.cells #[.int .i64 a', .int .i64 b', .int .i64 c'] 67 (0, 0)) t7 t8 w')
  case first =>
    go_region
    · go_wp2_with fail
      go_meet
      case rel => exact boxes1 w _ _
    · go_wp2_with fail
      go_meet
      case rel => exact boxes2 w _ _
  case rest =>
    obtain ⟨X, Y, rfl, rfl, hb, hX, hY, hX2, hY2, hx, hy⟩ := hcut
    clear i0 i1 i2 j0 j1 j2 h1
    have e0 : wc.cell? ⟨p, 0, none⟩ = some (.func (.func fid) #[] #[]) := by rw [(bcell hb).1 _ _ hp]; exact h0
    have x0 : wc.cell? ⟨X, 0, none⟩ = some (.int .i64 a) := cell_of_row wc X 0 _ _ _ hx
    have x1 : wc.cell? ⟨X, 1, none⟩ = some (.int .i64 b) := cell_of_row wc X 1 _ _ _ hx
    have x2 : wc.cell? ⟨X, 2, none⟩ = some (.int .i64 c) := cell_of_row wc X 2 _ _ _ hx
    have y0 : wc.cell? ⟨Y, 0, none⟩ = some (.int .i64 a') := cell_of_row wc Y 0 _ _ _ hy
    have y1 : wc.cell? ⟨Y, 1, none⟩ = some (.int .i64 b') := cell_of_row wc Y 1 _ _ _ hy
    have y2 : wc.cell? ⟨Y, 2, none⟩ = some (.int .i64 c') := cell_of_row wc Y 2 _ _ _ hy
    clear hx hy h0
    have E0 := Ext.cell e0
    have X0 := Ext.cell x0
    have X1 := Ext.cell x1
    have X2 := Ext.cell x2
    have Y0 := Ext.cell y0
    have Y1 := Ext.cell y1
    have Y2 := Ext.cell y2
    clear e0 x0 x1 x2 y0 y1 y2
    by_cases lt : K a < K a'
    · have lt' : decide (K a < K a') = true := decide_eq_true lt
      go_wp2_with fail
      refine wp_region_ext (by kernel_rfl) (by kernel_rfl) ?_
      repeat (refine wpQuiet_step (fun K hK => ?_); go_simp; first | (refine hK _ ?_; clear hK K) | (refine ⟨_, fun _ => rfl, hK _ ?_⟩; clear hK K) | (apply Exists.intro; refine ⟨fun _ => ?_, hK _ ?_⟩; (exact Ext.call _ (hL _ _ _ _ _)); clear hK K))
      refine wpQuiet_nil ?_
      rintro _ ⟨u, rfl⟩
      go_wp2_with fail
      go_ret
      refine ⟨by rw [lt']; rfl, hb.trans (u.2.mono hb.size)⟩
    · have lt' : decide (K a < K a') = false := decide_eq_false lt
      go_wp2_with fail
      refine wp_region_ext (by kernel_rfl) (by kernel_rfl) ?_
      repeat (refine wpQuiet_step (fun K hK => ?_); go_simp; first | (refine hK _ ?_; clear hK K) | (refine ⟨_, fun _ => rfl, hK _ ?_⟩; clear hK K) | (apply Exists.intro; refine ⟨fun _ => ?_, hK _ ?_⟩; (exact Ext.call _ (hL _ _ _ _ _)); clear hK K))
      refine wpQuiet_nil ?_
      rintro _ ⟨u, rfl⟩
      have F0 := Ext.cell (E0 u)
      have F1 := Ext.cell (X0 u)
      have F2 := Ext.cell (X1 u)
      have F3 := Ext.cell (X2 u)
      have F4 := Ext.cell (Y0 u)
      have F5 := Ext.cell (Y1 u)
      have F6 := Ext.cell (Y2 u)
      clear E0 X0 X1 X2 Y0 Y1 Y2
      have hu := hb.trans (u.2.mono hb.size)
      by_cases lt2 : K a' < K a
      · have lt2' : decide (K a' < K a) = true := decide_eq_true lt2
        go_wp2_with fail
        refine wp_region_ext (by kernel_rfl) (by kernel_rfl) ?_
        repeat (refine wpQuiet_step (fun K hK => ?_); go_simp; first | (refine hK _ ?_; clear hK K) | (refine ⟨_, fun _ => rfl, hK _ ?_⟩; clear hK K) | (apply Exists.intro; refine ⟨fun _ => ?_, hK _ ?_⟩; (exact Ext.call _ (hL _ _ _ _ _)); clear hK K))
        refine wpQuiet_nil ?_
        rintro _ ⟨u2, rfl⟩
        go_wp2_with fail
        go_ret
        refine ⟨by rw [lt', lt2']; rfl, hu.trans (u2.2.mono hu.size)⟩
      · have lt2' : decide (K a' < K a) = false := decide_eq_false lt2
        go_wp2_with fail
        refine wp_region_ext (by kernel_rfl) (by kernel_rfl) ?_
        repeat (refine wpQuiet_step (fun K hK => ?_); go_simp; first | (refine hK _ ?_; clear hK K) | (refine ⟨_, fun _ => rfl, hK _ ?_⟩; clear hK K) | (apply Exists.intro; refine ⟨fun _ => ?_, hK _ ?_⟩; (exact Ext.call _ (hL _ _ _ _ _)); clear hK K))
        refine wpQuiet_nil ?_
        rintro _ ⟨u2, rfl⟩
        go_wp2_with fail
        go_ret
        refine ⟨by rw [lt', lt2']; rfl, hu.trans (u2.2.mono hu.size)⟩

theorem before_any (fid : Nat) (K : Int → Int) (hL : LessOK fid K) (hrun : RunOK fid) (p : Nat) (v : Value) (xs : Array It) (nx : Int) (i j : Int) (w : World) (hH : HeapAt w p fid v xs nx)
    (hi0 : 0 ≤ i) (hi : i < xs.size) (hj0 : 0 ≤ j) (hj : j < xs.size) :
    Calls Try.prog 40 #[.pointer (some ⟨p, 0, none⟩), .int .i64 i, .int .i64 j] w fun e w' => e = .returned (.bool (lt K xs[i.toNat]! xs[j.toNat]!)) ∧ Below w.heap.size w w' := by
  obtain ⟨i, rfl⟩ := Int.eq_ofNat_of_zero_le hi0
  obtain ⟨j, rfl⟩ := Int.eq_ofNat_of_zero_le hj0
  obtain ⟨g, cap, rfl, hg, _, _⟩ := hH.form (by omega)
  obtain ⟨c0, c1, c2, _⟩ := hH.cells
  obtain ⟨i0, i1, i2⟩ := hH.item i (by omega)
  obtain ⟨j0, j1, j2⟩ := hH.item j (by omega)
  exact before_raw fid K hL hrun p g xs.size cap i j _ _ _ _ _ _ w (by omega) (by omega) hH.small hH.lt hg c0 c1 i0 i1 i2 j0 j1 j2

set_option maxHeartbeats 4000000 in
set_option maxRecDepth 1000000 in
theorem swap_raw (p g n cap i j : Nat) (a b c a' b' c' : Int) (w : World) (hi : i < n) (hj : j < n) (_hn : n ≤ 1000000)
   (h1 : w.cell? ⟨p, 1, none⟩ = some (.slice (some ⟨g, 0, none⟩) n cap))
   (i0 : w.cell? ⟨g, i * 3, none⟩ = some (.int .i64 a)) (i1 : w.cell? ⟨g, i * 3 + 1, none⟩ = some (.int .i64 b)) (i2 : w.cell? ⟨g, i * 3 + 2, none⟩ = some (.int .i64 c))
   (j0 : w.cell? ⟨g, j * 3, none⟩ = some (.int .i64 a')) (j1 : w.cell? ⟨g, j * 3 + 1, none⟩ = some (.int .i64 b')) (j2 : w.cell? ⟨g, j * 3 + 2, none⟩ = some (.int .i64 c'))
   (fz : ∀ o, w.frozen? ⟨g, o, none⟩ = false) (hne : i ≠ j) :
    Calls Try.prog 41 #[.pointer (some ⟨p, 0, none⟩), .int .i64 i, .int .i64 j] w fun e w' => e = .returned (.tuple #[]) ∧
      ((((((w.setCell ⟨g, i * 3, none⟩ (.int .i64 a')).setCell ⟨g, i * 3 + 1, none⟩ (.int .i64 b')).setCell ⟨g, i * 3 + 2, none⟩ (.int .i64 c')).setCell
        ⟨g, j * 3, none⟩ (.int .i64 a)).setCell ⟨g, j * 3 + 1, none⟩ (.int .i64 b)).setCell ⟨g, j * 3 + 2, none⟩ (.int .i64 c)).drew = w' := by
  have q : ∀ (W : World) (x : Nat) (v u : Value) (y : Nat), x ≠ y → W.cell? ⟨g, y, none⟩ = some u → (W.setCell ⟨g, x, none⟩ v).cell? ⟨g, y, none⟩ = some u := by
    intro W x v u y hxy h
    rw [World.cell?_setCell_other _ _ _ _ (fun e => hxy (congrArg Addr.off e))]; exact h
  have s0 := q w (i * 3) (.int .i64 a') _ _ (by omega) j0
  have s1 := q _ (i * 3 + 1) (.int .i64 b') _ _ (by omega) (q w (i * 3) (.int .i64 a') _ _ (by omega) j1)
  have s2 := q _ (i * 3 + 2) (.int .i64 c') _ _ (by omega) (q _ (i * 3 + 1) (.int .i64 b') _ _ (by omega) (q w (i * 3) (.int .i64 a') _ _ (by omega) j2))
  have r0 := q w (j * 3) (.int .i64 a) _ _ (by omega) i0
  have r1 := q _ (j * 3 + 1) (.int .i64 b) _ _ (by omega) (q w (j * 3) (.int .i64 a) _ _ (by omega) i1)
  have r2 := q _ (j * 3 + 2) (.int .i64 c) _ _ (by omega) (q _ (j * 3 + 1) (.int .i64 b) _ _ (by omega) (q w (j * 3) (.int .i64 a) _ _ (by omega) i2))
  clear q hne
  go_enter Try.func41, Try.ntmps41
  go_wp2
  go_region
  all_goals go_wp2
  all_goals go_end0
  all_goals exact ⟨rfl, rfl⟩

/-- Three stores lay one element. -/
theorem Row.set {w : World} {g cap : Nat} {xs : Array It} (h : Row w (.slice (some ⟨g, 0, none⟩) xs.size cap) xs) (i : Nat) (hi : i < xs.size) (x : It) :
    Row (((w.setCell ⟨g, i * 3, none⟩ (.int .i64 x.k)).setCell ⟨g, i * 3 + 1, none⟩ (.int .i64 x.n)).setCell ⟨g, i * 3 + 2, none⟩ (.int .i64 x.s)) (.slice (some ⟨g, 0, none⟩) xs.size cap) (xs.setIfInBounds i x) ∧
      w.grownBy (((w.setCell ⟨g, i * 3, none⟩ (.int .i64 x.k)).setCell ⟨g, i * 3 + 1, none⟩ (.int .i64 x.n)).setCell ⟨g, i * 3 + 2, none⟩ (.int .i64 x.s)) (some g) := by
  obtain ⟨h1, g1⟩ := World.ownsRow.stored h (i * 3) (.int .i64 x.k)
  obtain ⟨h2, g2⟩ := World.ownsRow.stored h1 (i * 3 + 1) (.int .i64 x.n)
  obtain ⟨h3, g3⟩ := World.ownsRow.stored h2 (i * 3 + 2) (.int .i64 x.s)
  rw [flat_set xs.toList x i (by simpa using hi)] at h3
  refine ⟨?_, grown_trans (grown_trans g1 g2) g3⟩
  unfold Row
  rw [Array.toList_setIfInBounds, Array.size_setIfInBounds]
  exact h3

theorem grown_drew {w a : World} {r : Option Nat} (h : w.grownBy a r) : w.grownBy a.drew r := ⟨h.os, h.tape, h.output, h.size, h.block⟩
theorem Row.drew {w : World} {v : Value} {xs : Array It} (h : Row w v xs) : Row w.drew v xs := h

theorem swapped {w w' : World} {p fid g cap : Nat} {xs : Array It} {nx : Int} (hH : HeapAt w p fid (.slice (some ⟨g, 0, none⟩) xs.size cap) xs nx) (i j : Nat) (hi : i < xs.size) (hj : j < xs.size)
    (hw : ((((((w.setCell ⟨g, i * 3, none⟩ (.int .i64 xs[j]!.k)).setCell ⟨g, i * 3 + 1, none⟩ (.int .i64 xs[j]!.n)).setCell ⟨g, i * 3 + 2, none⟩ (.int .i64 xs[j]!.s)).setCell
        ⟨g, j * 3, none⟩ (.int .i64 xs[i]!.k)).setCell ⟨g, j * 3 + 1, none⟩ (.int .i64 xs[i]!.n)).setCell ⟨g, j * 3 + 2, none⟩ (.int .i64 xs[i]!.s)).drew = w') :
    HeapAt w' p fid (.slice (some ⟨g, 0, none⟩) xs.size cap) (Hp.swp xs i j) nx ∧ w.grownBy w' (some g) := by
  obtain ⟨r1, g1⟩ := Row.set hH.row i hi xs[j]!
  have hsz : xs.size = (xs.setIfInBounds i xs[j]!).size := by simp
  rw [hsz] at r1
  obtain ⟨r2, g2⟩ := Row.set r1 j (by simpa using hj) xs[i]!
  rw [← hsz] at r2
  have gg := grown_trans g1 g2
  have gw : w.grownBy w' (some g) := by rw [← hw]; exact grown_drew gg
  refine ⟨hH.grown gw ?_ (by simp), gw⟩
  rw [← hw]
  exact Row.drew r2

theorem swap_any (fid : Nat) (p : Nat) (v : Value) (xs : Array It) (nx : Int) (i j : Int) (w : World) (hH : HeapAt w p fid v xs nx)
    (hi0 : 0 ≤ i) (hi : i < xs.size) (hj0 : 0 ≤ j) (hj : j < xs.size) (hne : i ≠ j) :
    Calls Try.prog 41 #[.pointer (some ⟨p, 0, none⟩), .int .i64 i, .int .i64 j] w fun e w' => e = .returned (.tuple #[]) ∧ HeapAt w' p fid v (Hp.swp xs i.toNat j.toNat) nx ∧ w.grownBy w' v.ownBlock := by
  obtain ⟨i, rfl⟩ := Int.eq_ofNat_of_zero_le hi0
  obtain ⟨j, rfl⟩ := Int.eq_ofNat_of_zero_le hj0
  obtain ⟨g, cap, rfl, hg, _, _⟩ := hH.form (by omega)
  obtain ⟨c0, c1, c2, _⟩ := hH.cells
  obtain ⟨i0, i1, i2⟩ := hH.item i (by omega)
  obtain ⟨j0, j1, j2⟩ := hH.item j (by omega)
  have hr := swap_raw p g xs.size cap i j _ _ _ _ _ _ w (by omega) (by omega) hH.small c1 i0 i1 i2 j0 j1 j2 hH.free (by omega)
  refine hr.mono ?_
  rintro e w' ⟨he, hw⟩
  exact ⟨he, swapped hH i j (by omega) (by omega) hw⟩
end Go.Proofs.Ytjdkaagkaambkaa
