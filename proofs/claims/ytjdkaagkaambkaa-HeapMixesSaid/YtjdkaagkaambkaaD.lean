/- Pop and Peek of the heap, each by a contract. -/
import Derived.Test.YtjdkaagkaambkaaC
namespace Go.Proofs.Ytjdkaagkaambkaa
open Go.RowKit Go.Proofs

theorem pop_empty (p fid : Nat) (v : Value) (xs : Array It) (nx : Int) (w : World) (hH : HeapAt w p fid v xs nx) (h0 : xs.size = 0) :
    Calls Try.prog 24 #[.pointer (some ⟨p, 0, none⟩)] w fun e w' => e = .returned (.tuple #[.agg #[.int .i64 0, .int .i64 0], .bool false]) ∧ Below w.heap.size w w' := by
  obtain ⟨ao, cap, e⟩ := hH.slice
  rw [h0] at e
  subst e
  obtain ⟨c0, c1, c2, cf⟩ := hH.cells
  have hlt := hH.lt
  clear hH h0
  go_enter Try.func24, Try.ntmps24
  go_wp2
  refine bodyPost_ret (v := .tuple #[.agg #[.int .i64 0, .int .i64 0], .bool false]) (by simp [results, Try.results24, go_sem]) rfl ⟨rfl, ?_⟩
  go_light
  exact (((Below.refl _ _).alloc (Nat.le_refl _) _).alloc (by simp) _)

theorem flat_take (l : List It) : ∀ m, (flat l).take (m * 3) = flat (l.take m) := by
  induction l with
  | nil => intro m; simp [flat]
  | cons x l ih =>
    intro m
    cases m with
    | zero => simp [flat]
    | succ m => simp [flat, Nat.succ_mul, ih m]

theorem Stp.setNew {p : Nat} {w a : World} {v v' : Value} (h : Stp p w v a v') {q : Addr} (hq : w.heap.size ≤ q.block) (u : Value) : Stp p w v (a.setCell q u) v' :=
  ⟨h.os, h.tape, h.output, by simpa using h.size, fun k hk hkp hkv => by rw [heap_setCell_other a q k u (fun e => by omega)]; exact h.block k hk hkp hkv, h.row⟩
theorem HeapAt.setOther {w : World} {p fid : Nat} {v : Value} {xs : Array It} {nx : Int} (h : HeapAt w p fid v xs nx) {q : Addr} (h1 : q.block ≠ p) (h2 : v.ownBlock ≠ some q.block) (u : Value) : HeapAt (w.setCell q u) p fid v xs nx :=
  ⟨by rw [heap_setCell_other w q p u (fun e => h1 e.symm)]; exact h.st, h.row.kept (row := some q.block) ⟨rfl, rfl, rfl, by simp, fun k _ hk => heap_setCell_other w q k u (fun e => hk (by rw [e]))⟩ (.inr h2), h.small⟩

/-- The last place is cleared and cut off. -/
theorem pop_shrink {w : World} {p fid g m cap : Nat} {ys : Array It} {nx : Int} (hH : HeapAt w p fid (.slice (some ⟨g, 0, none⟩) (m + 1) cap) ys nx) (hm : ys.size = m + 1) :
    HeapAt ((((w.setCell ⟨g, m * 3, none⟩ (.int .i64 0)).setCell ⟨g, m * 3 + 1, none⟩ (.int .i64 0)).setCell ⟨g, m * 3 + 2, none⟩ (.int .i64 0)).setCell ⟨p, 1, none⟩ (.slice (some ⟨g, 0, none⟩) m cap)) p fid (.slice (some ⟨g, 0, none⟩) m cap) ys.pop nx ∧
    Stp p w (.slice (some ⟨g, 0, none⟩) (m + 1) cap) ((((w.setCell ⟨g, m * 3, none⟩ (.int .i64 0)).setCell ⟨g, m * 3 + 1, none⟩ (.int .i64 0)).setCell ⟨g, m * 3 + 2, none⟩ (.int .i64 0)).setCell ⟨p, 1, none⟩ (.slice (some ⟨g, 0, none⟩) m cap)) (.slice (some ⟨g, 0, none⟩) m cap) := by
  have hr := hH.row
  rw [← hm] at hr
  obtain ⟨r1, g1⟩ := Row.set hr m (by omega) ⟨0, 0, 0⟩
  simp only at r1 g1
  generalize (((w.setCell ⟨g, m * 3, none⟩ (.int .i64 0)).setCell ⟨g, m * 3 + 1, none⟩ (.int .i64 0)).setCell ⟨g, m * 3 + 2, none⟩ (.int .i64 0)) = a at *
  have hgp : g ≠ p := fun e => hH.apart (by simp [Value.ownBlock, e])
  have hst : a.heap[p]? = some (.cells #[.func (.func fid) #[] #[], .slice (some ⟨g, 0, none⟩) (m + 1) cap, .int .i64 nx] 65 (0, 0)) := by
    rw [g1.block p hH.lt (by simpa using Ne.symm hgp)]; exact hH.st
  refine ⟨⟨?_, ?_, by have := hH.small; simp; omega⟩, ⟨g1.os, g1.tape, g1.output, by have := g1.size; simpa using this, fun k hk hkp hkv => ?_, fun k hk => .inl hk⟩⟩
  · have := heap_setCell_same a p 1 _ _ (.slice (some ⟨g, 0, none⟩) m cap) hst
    simpa using this
  · rcases r1.2 with ⟨h1, _⟩ | ⟨g', cap', cur, h1, hb, hg, hnc, hcm, hcs, htake⟩
    · simp at h1
    · simp only [Value.slice.injEq, Option.some.injEq, Addr.mk.injEq, and_true] at h1
      obtain ⟨rfl, _, rfl⟩ := h1
      simp only [Array.size_setIfInBounds] at hnc htake
      refine ⟨by rw [flat_len]; simp, .inr ⟨g, cap, cur, ?_, hb, ?_, ?_, hcm, hcs, ?_⟩⟩
      · simp [hm]
      · rw [heap_setCell_other a ⟨p, 1, none⟩ g _ hgp]; exact hg
      · simp; omega
      · have e1 : (cur.toList.take (ys.size * 3)).take (m * 3) = cur.toList.take (m * 3) := by rw [List.take_take]; congr 1; omega
        have e2 : ys.pop.size = m := by simp [hm]
        rw [e2, ← e1, htake, flat_take, Array.toList_setIfInBounds, Array.toList_pop, List.dropLast_eq_take]
        congr 1
        rw [List.take_set_of_le (Nat.le_refl _)]
        congr 1
        simp [hm]
  · rw [heap_setCell_other a ⟨p, 1, none⟩ k _ hkp]
    exact g1.block k hk hkv

theorem three_below (w : World) (o1 o2 o3 : Obj) : Below w.heap.size w (((w.alloc o1).alloc o2).alloc o3) :=
  (((Below.refl _ _).alloc (Nat.le_refl _) _).alloc (by simp) _).alloc (by simp; omega) _
theorem three_heap (w : World) (o1 o2 o3 : Obj) : (((w.alloc o1).alloc o2).alloc o3).heap[w.heap.size]? = some o1 ∧ (((w.alloc o1).alloc o2).alloc o3).heap[w.heap.size + 1 + 1]? = some o3 ∧ (((w.alloc o1).alloc o2).alloc o3).heap.size = w.heap.size + 3 := by
  refine ⟨?_, ?_, by simp⟩
  · rw [heap_alloc_old _ _ (by simp; omega), heap_alloc_old _ _ (by simp), heap_alloc_new]
  · have := heap_alloc_new ((w.alloc o1).alloc o2) o3
    simpa using this

theorem set_first {w : World} {p fid g n cap : Nat} {xs : Array It} {nx : Int} (hH : HeapAt w p fid (.slice (some ⟨g, 0, none⟩) n cap) xs nx) (hn : xs.size = n) (h0 : 0 < n) (x : It) :
    HeapAt (((w.setCell ⟨g, 0, none⟩ (.int .i64 x.k)).setCell ⟨g, 1, none⟩ (.int .i64 x.n)).setCell ⟨g, 2, none⟩ (.int .i64 x.s)).drew p fid (.slice (some ⟨g, 0, none⟩) n cap) (xs.setIfInBounds 0 x) nx ∧
    w.grownBy (((w.setCell ⟨g, 0, none⟩ (.int .i64 x.k)).setCell ⟨g, 1, none⟩ (.int .i64 x.n)).setCell ⟨g, 2, none⟩ (.int .i64 x.s)).drew (some g) := by
  subst hn
  obtain ⟨r1, g1⟩ := Row.set hH.row 0 h0 x
  simp only [Nat.zero_mul, Nat.zero_add] at r1 g1
  exact ⟨hH.grown (grown_drew g1) (Row.drew r1) (by simp), grown_drew g1⟩

def PopMid (a : World) (p fid g n cap : Nat) (ys : Array It) (nx : Int) (w' : World) : Prop :=
  HeapAt w' p fid (.slice (some ⟨g, 0, none⟩) n cap) ys nx ∧ a.grownBy w' (some g)

def PopEnd (w : World) (K : Int → Int) (p fid : Nat) (v : Value) (xs : Array It) (nx : Int) (e : Ending) (w' : World) : Prop :=
  e = .returned (.tuple #[.agg #[.int .i64 xs[0]!.k, .int .i64 xs[0]!.n], .bool true]) ∧ ∃ v', HeapAt w' p fid v' (Hp.popM (lt K) xs) nx ∧ Stp p w v w' v'

set_option maxHeartbeats 4000000 in
set_option maxRecDepth 1000000 in
theorem pop_raw (fid : Nat) (K : Int → Int) (hL : LessOK fid K) (hrun : RunOK fid) (p g m cap : Nat) (xs : Array It) (nx : Int) (w : World) (hH : HeapAt w p fid (.slice (some ⟨g, 0, none⟩) (m + 1) cap) xs nx) (hm : xs.size = m + 1) (hcap : m + 1 ≤ cap) (_hcm : cap ≤ maxLen) :
    Calls Try.prog 24 #[.pointer (some ⟨p, 0, none⟩)] w (PopEnd w K p fid (.slice (some ⟨g, 0, none⟩) (m + 1) cap) xs nx) := by
  obtain ⟨c0, c1, c2, cf⟩ := hH.cells
  obtain ⟨i0, i1, i2⟩ := hH.item 0 (by omega)
  obtain ⟨l0, l1, l2⟩ := hH.item m (by omega)
  have fz := hH.free
  have hlt := hH.lt
  have hg : g < w.heap.size := hH.row.lt g rfl |>.2
  have hgp : ¬ g = p := fun e => hH.apart (by simp [Value.ownBlock, e])
  have hm1 : (m : Int) ≤ 1000000 := by have := hH.small; omega
  have fm : ((m : Int) + 1 == 0) = false := beq_eq_false_iff_ne.2 (by omega)
  have fm1 : (0 : Int) < (m : Int) + 1 := by omega
  have hlt1 : p < w.heap.size + 1 := by omega
  have hlt2 : p < w.heap.size + 1 + 1 := by omega
  have hg1 : g < w.heap.size + 1 := by omega
  have hg2 : g < w.heap.size + 1 + 1 := by omega
  simp only [Nat.zero_mul, Nat.zero_add] at i0 i1 i2
  obtain ⟨a, ha⟩ : ∃ a, xs[0]!.k = a := ⟨_, rfl⟩
  obtain ⟨b, hb⟩ : ∃ a, xs[0]!.n = a := ⟨_, rfl⟩
  rw [ha] at i0
  rw [hb] at i1
  have HA := Lib.hid ha
  have HB := Lib.hid hb
  have HH := Lib.hid hH
  have HL := Lib.hid hL
  have HR := Lib.hid hrun
  have HMx := Lib.hid hm
  clear hH hL hrun hm ha hb
  go_enter Try.func24, Try.ntmps24
  go_upto_region 6 with fail
  go_cut [42] (fun _ w' => PopMid (((w.alloc (Obj.cells #[Value.int IntKind.i64 0, Value.int IntKind.i64 0] 26)).alloc (Obj.cells #[Value.int IntKind.i64 0, Value.int IntKind.i64 0] 26)).alloc (Obj.cells #[Value.int IntKind.i64 a, Value.int IntKind.i64 b] 26)) p fid g (m + 1) cap (xs.setIfInBounds 0 xs[m]!) nx w')
  case first =>
    have hHA := HH.out.below (three_below w (Obj.cells #[Value.int IntKind.i64 0, Value.int IntKind.i64 0] 26) (Obj.cells #[Value.int IntKind.i64 0, Value.int IntKind.i64 0] 26) (Obj.cells #[Value.int IntKind.i64 a, Value.int IntKind.i64 b] 26))
    generalize hWA : (((w.alloc (Obj.cells #[Value.int IntKind.i64 0, Value.int IntKind.i64 0] 26)).alloc (Obj.cells #[Value.int IntKind.i64 0, Value.int IntKind.i64 0] 26)).alloc (Obj.cells #[Value.int IntKind.i64 a, Value.int IntKind.i64 b] 26)) = wA at hHA ⊢
    clear c0 c1 c2 cf i0 i1 i2 l0 l1 l2 fz
    obtain ⟨c0, c1, c2, cf⟩ := hHA.cells
    obtain ⟨i0, i1, i2⟩ := hHA.item 0 (by have := HMx.out; omega)
    obtain ⟨l0, l1, l2⟩ := hHA.item m (by have := HMx.out; omega)
    have fz := hHA.free
    simp only [Nat.zero_mul, Nat.zero_add] at i0 i1 i2
    have HHA := Lib.hid hHA
    have HWA := Lib.hid hWA
    clear hHA hWA
    go_region
    all_goals
      go_wp2_with fail
      go_meet
      case rel =>
        rw [HWA.out]
        exact set_first HHA.out HMx.out (by omega) xs[m]!
  case rest =>
    obtain ⟨hHc, hgc⟩ := hcut
    obtain ⟨hA1, hA2, hA3⟩ := three_heap w (Obj.cells #[Value.int IntKind.i64 0, Value.int IntKind.i64 0] 26) (Obj.cells #[Value.int IntKind.i64 0, Value.int IntKind.i64 0] 26) (Obj.cells #[Value.int IntKind.i64 a, Value.int IntKind.i64 b] 26)
    have hAb := three_below w (Obj.cells #[Value.int IntKind.i64 0, Value.int IntKind.i64 0] 26) (Obj.cells #[Value.int IntKind.i64 0, Value.int IntKind.i64 0] 26) (Obj.cells #[Value.int IntKind.i64 a, Value.int IntKind.i64 b] 26)
    generalize (((w.alloc (Obj.cells #[Value.int IntKind.i64 0, Value.int IntKind.i64 0] 26)).alloc (Obj.cells #[Value.int IntKind.i64 0, Value.int IntKind.i64 0] 26)).alloc (Obj.cells #[Value.int IntKind.i64 a, Value.int IntKind.i64 b] 26)) = wA at hgc hA1 hA2 hA3 hAb
    clear c0 c1 c2 cf i0 i1 i2 l0 l1 l2 fz
    have hys : (xs.setIfInBounds 0 xs[m]!).size = m + 1 := by have := HMx.out; simpa using this
    obtain ⟨c0, c1, c2, cf⟩ := hHc.cells
    obtain ⟨l0, l1, l2⟩ := hHc.item m (by omega)
    have fz := hHc.free
    obtain ⟨hHs, hSs⟩ := pop_shrink hHc hys
    have HHs := Lib.hid hHs
    have HSs := Lib.hid hSs
    have HGc := Lib.hid hgc
    have HHc := Lib.hid hHc
    have HA1 := Lib.hid hA1
    have HA2 := Lib.hid hA2
    have HA3 := Lib.hid hA3
    have HAb := Lib.hid hAb
    have HYs := Lib.hid hys
    have hmc : m ≤ cap := by omega
    clear hHs hSs hgc hHc hA1 hA2 hA3 hAb hys
    go_wp2_with fail
    refine (down_any fid K HL.out HR.out p _ (xs.setIfInBounds 0 xs[m]!).pop nx _ _ HHs.out ?_ ?_).mono ?_
    · omega
    · omega
    rintro e w3 ⟨rfl, hH3, hg3⟩
    have hS3 : Stp p wA (.slice (some ⟨g, 0, none⟩) (m + 1) cap) w3 (.slice (some ⟨g, 0, none⟩) m cap) := ((Stp.of_grown HGc.out).trans HSs.out).trans (Stp.of_grown hg3)
    have hR : w3.heap[w.heap.size]? = some (.cells #[.int .i64 0, .int .i64 0] 26 (0, 0)) := by
      rw [hS3.block _ (by have := HA3.out; omega) (by omega) (by simp [Value.ownBlock]; omega)]; exact HA1.out
    have hX : w3.heap[w.heap.size + 1 + 1]? = some (.cells #[.int .i64 a, .int .i64 b] 26 (0, 0)) := by
      rw [hS3.block _ (by have := HA3.out; omega) (by omega) (by simp [Value.ownBlock]; omega)]; exact HA2.out
    have x0 := cell_of_row w3 _ 0 _ _ _ hX
    have x1 := cell_of_row w3 _ 1 _ _ _ hX
    have y0 := cell_of_row w3 _ 0 _ _ _ hR
    have y1 := cell_of_row w3 _ 1 _ _ _ hR
    have yf : ∀ o, w3.frozen? ⟨w.heap.size, o, none⟩ = false := fun o => by simp [World.frozen?, hR]
    simp at x0 x1 y0 y1
    have HH3 := Lib.hid hH3
    have HS3 := Lib.hid hS3
    clear hH3 hg3 hS3 hR hX c0 c1 c2 cf l0 l1 l2 fz
    go_wp2_with fail
    refine bodyPost_ret (v := .tuple #[.agg #[.int .i64 a, .int .i64 b], .bool true]) (by simp [results, Try.results24, go_sem, y0, y1]) rfl ?_
    go_light
    refine ⟨by rw [HA.out, HB.out], _, ?_, Stp.setNew (Stp.setNew ((Stp.of_below HAb.out).trans HS3.out) (Nat.le_refl _) _) (Nat.le_refl _) _⟩
    have hp : Hp.popM (lt K) xs = Hp.downM (lt K) 0 (xs.setIfInBounds 0 xs[m]!).pop := by
      unfold Hp.popM
      rw [HMx.out, Nat.add_sub_cancel]
    rw [hp]
    exact ((HH3.out).setOther (by simp; omega) (by simp [Value.ownBlock]; omega) _).setOther (by simp; omega) (by simp [Value.ownBlock]; omega) _

theorem pop_some (fid : Nat) (K : Int → Int) (hL : LessOK fid K) (hrun : RunOK fid) (p : Nat) (v : Value) (xs : Array It) (nx : Int) (w : World) (hH : HeapAt w p fid v xs nx) (h0 : 0 < xs.size) :
    Calls Try.prog 24 #[.pointer (some ⟨p, 0, none⟩)] w (PopEnd w K p fid v xs nx) := by
  obtain ⟨g, cap, rfl, _, hc, hm⟩ := hH.form h0
  obtain ⟨m, hm'⟩ : ∃ m, xs.size = m + 1 := ⟨xs.size - 1, by omega⟩
  rw [hm'] at hH hc ⊢
  exact pop_raw fid K hL hrun p g m cap xs nx w hH hm' hc hm

theorem peek_empty (p fid : Nat) (v : Value) (xs : Array It) (nx : Int) (w : World) (hH : HeapAt w p fid v xs nx) (h0 : xs.size = 0) :
    Calls Try.prog 25 #[.pointer (some ⟨p, 0, none⟩)] w fun e w' => e = .returned (.tuple #[.agg #[.int .i64 0, .int .i64 0], .bool false]) ∧ Below w.heap.size w w' := by
  obtain ⟨ao, cap, e⟩ := hH.slice
  rw [h0] at e
  subst e
  obtain ⟨c0, c1, c2, cf⟩ := hH.cells
  have hlt := hH.lt
  clear hH h0
  go_enter Try.func25, Try.ntmps25
  go_wp2
  refine bodyPost_ret (v := .tuple #[.agg #[.int .i64 0, .int .i64 0], .bool false]) (by simp [results, Try.results25, go_sem]) rfl ⟨rfl, ?_⟩
  go_light
  exact (((Below.refl _ _).alloc (Nat.le_refl _) _).alloc (by simp) _)

theorem peek_some (p fid : Nat) (v : Value) (xs : Array It) (nx : Int) (w : World) (hH : HeapAt w p fid v xs nx) (h0 : 0 < xs.size) :
    Calls Try.prog 25 #[.pointer (some ⟨p, 0, none⟩)] w fun e w' => e = .returned (.tuple #[.agg #[.int .i64 xs[0]!.k, .int .i64 xs[0]!.n], .bool true]) ∧ Below w.heap.size w w' := by
  obtain ⟨g, cap, rfl, hg, hc, _⟩ := hH.form h0
  obtain ⟨m, hm'⟩ : ∃ m, xs.size = m + 1 := ⟨xs.size - 1, by omega⟩
  obtain ⟨c0, c1, c2, cf⟩ := hH.cells
  obtain ⟨i0, i1, i2⟩ := hH.item 0 (by omega)
  have hlt := hH.lt
  have hm1 : (m : Int) ≤ 1000000 := by have := hH.small; omega
  have fm : ((m : Int) + 1 == 0) = false := beq_eq_false_iff_ne.2 (by omega)
  have fm1 : (0 : Int) < (m : Int) + 1 := by omega
  simp only [Nat.zero_mul, Nat.zero_add] at i0 i1 i2
  obtain ⟨a, ha⟩ : ∃ a, xs[0]!.k = a := ⟨_, rfl⟩
  obtain ⟨b, hb⟩ : ∃ a, xs[0]!.n = a := ⟨_, rfl⟩
  rw [ha] at i0 ⊢
  rw [hb] at i1 ⊢
  rw [hm'] at c1
  clear hH hm' ha hb hc
  go_enter Try.func25, Try.ntmps25
  go_wp2
  refine bodyPost_ret (v := .tuple #[.agg #[.int .i64 a, .int .i64 b], .bool true]) (by simp [results, Try.results25, go_sem]) rfl ⟨rfl, ?_⟩
  go_light
  exact (((Below.refl _ _).alloc (Nat.le_refl _) _).alloc (by simp) _)
end Go.Proofs.Ytjdkaagkaambkaa
