/- HeapMixes: what the loops keep; the counting step as runs of the map's operations. -/
import Derived.Test.YtjdkaagkaambkaaMb
import Derived.Test.YtjdkaagkaambkaaPlA
import Derived.Test.YtjdkaagkaambkaaH
import Derived.Test.YtjdkaagkaambkaaR
import Derived.Maps.RangeWalk
namespace Go.Proofs.Ytjdkaagkaambkaa
open Go.RowKit Go.Proofs Go.Maps Go.WideElems
open Go.ChangeMaps (setBlock heap_setBlock_same heap_setBlock_other)

/-- A slice of bytes that reads as l. -/
def Bts (w : World) (v : Value) (l : List Int) : Prop := ∃ ao cap, v = .slice ao l.length cap ∧
  (0 < l.length → ∃ b off, ao = some ⟨b, off, none⟩ ∧ b < w.heap.size ∧ ∀ i (h : i < l.length), w.cell? ⟨b, off + i, none⟩ = some (.int .u8 l[i]) ∧ 0 ≤ l[i] ∧ l[i] ≤ 255)
theorem Bts.below {w w' : World} {v : Value} {l : List Int} (h : Bts w v l) (hb : Below w.heap.size w w') : Bts w' v l := by
  obtain ⟨ao, cap, hv, h⟩ := h
  refine ⟨ao, cap, hv, fun h0 => ?_⟩
  obtain ⟨b, off, ha, hlt, hc⟩ := h h0
  exact ⟨b, off, ha, Nat.lt_of_lt_of_le hlt hb.size, fun i hi => by rw [(bcell hb).1 _ _ hlt]; exact hc i hi⟩
theorem Bts.at {w : World} {ao : Option Addr} {n cap : Nat} {l : List Int} (h : Bts w (.slice ao n cap) l) (j : Nat) (hj : j < l.length) :
    ∃ bb off, ao = some ⟨bb, off, none⟩ ∧ bb < w.heap.size ∧ w.cell? ⟨bb, off + j, none⟩ = some (.int .u8 l[j]) ∧ 0 ≤ l[j] ∧ l[j] ≤ 255 := by
  obtain ⟨ao', cap', e, h⟩ := h
  simp only [Value.slice.injEq] at e
  obtain ⟨rfl, _, _⟩ := e
  obtain ⟨bb, off, h1, h2, h3⟩ := h (by omega)
  exact ⟨bb, off, h1, h2, h3 j hj⟩

theorem grown_setBlock {w : World} {b : Nat} {es : Array MapEntry} {c : Nat} {o' : Obj} (h : w.heap[b]? = some (.map es c)) : w.grownBy (setBlock w b o') (some b) :=
  ⟨rfl, rfl, rfl, by simp [setBlock], fun i _ hi => heap_setBlock_other h _ (fun e => hi (by rw [e]))⟩

/-- 'm[x]++' and 'm[x]--': every run that the region's orders ask for. -/
theorem inc_runs {w : World} {b n : Nat} {f : Int × Int → Int} {es : Array MapEntry} {clock : Nat} (h : MapC w b n f es clock) (x : Int × Int) (hx : Wf2 x) (v : Int) (hv : (Lit.int .i64 v).wf = true) (hn : n < maxLen) :
    ∃ (v0 : Value) (st : Nat) (W2 W4 : World) (es' : Array MapEntry) (clock' : Nat),
      (Instr.lookup 47 (.map (some b)) (.agg #[.int .i64 x.1, .int .i64 x.2]) false).run Try.prog w = .ok (.int .i64 (f x)) w ∧
      (Instr.mapEntry 47 (.map (some b)) (.agg #[.int .i64 x.1, .int .i64 x.2])).run Try.prog w = .ok (.tuple #[v0, .int .i64 st]) W2 ∧
      (Instr.lookup 47 (.map (some b)) (.agg #[.int .i64 x.1, .int .i64 x.2]) false).run Try.prog W2 = .ok (.int .i64 (f x)) W2 ∧
      (Instr.entryStore 47 (.map (some b)) (.int .i64 st) (.int .i64 v)).run Try.prog W2 = .ok () W4 ∧
      MapC W4 b (n + 1) (upd f x v) es' clock' ∧ w.grownBy W4 (some b) := by
  obtain ⟨v0, st, es1, clock1, h1, h2, h3⟩ := h.store x hx hn
  obtain ⟨es', clock', h4, h5⟩ := h3 _ v hv h2.at_
  exact ⟨v0, st, _, _, es', clock', h.look x hx, h1, h2.look x hx, h4, h5, grown_trans (grown_setBlock h.at_) (grown_setBlock h2.at_)⟩

theorem map_keep {w w' : World} {p fid b n : Nat} {v v' : Value} {xs : Array It} {nx : Int} {f : Int × Int → Int} {es : Array MapEntry} {clock : Nat} (h : MapC w b n f es clock) (k : HeapAt w p fid v xs nx) (s : Stp p w v w' v') : MapC w' b n f es clock := by
  refine h.keep ?_
  refine s.block b h.lt ?_ ?_
  · rintro rfl
    have := k.st
    rw [h.at_] at this
    simp at this
  · intro e
    rcases k.row.2 with ⟨rfl, _⟩ | ⟨g', cap', cur', rfl, _, hg', _⟩
    · simp [Value.ownBlock] at e
    · simp [Value.ownBlock] at e
      subst e
      have := h.at_
      rw [hg'] at this
      simp at this
theorem MapC.below {w w' : World} {b n : Nat} {f : Int × Int → Int} {es : Array MapEntry} {clock : Nat} (h : MapC w b n f es clock) (hb : Below w.heap.size w w') : MapC w' b n f es clock := h.keep (hb.block b h.lt)
theorem heap_keep {w w' : World} {p fid b n : Nat} {v : Value} {xs : Array It} {nx : Int} {f : Int × Int → Int} {es : Array MapEntry} {clock : Nat} (h : MapC w b n f es clock) (k : HeapAt w p fid v xs nx) (hg : w.grownBy w' (some b)) : HeapAt w' p fid v xs nx := by
  have hpb : some p ≠ some b := by
    intro e
    obtain rfl := Option.some.inj e
    have := k.st
    rw [h.at_] at this
    simp at this
  refine ⟨by rw [hg.block p k.lt hpb]; exact k.st, k.row.kept hg (.inr ?_), k.small⟩
  intro e
  rcases k.row.2 with ⟨rfl, _⟩ | ⟨g', cap', cur', rfl, _, hg', _⟩
  · simp [Value.ownBlock] at e
  · simp [Value.ownBlock] at e
    subst e
    have := h.at_
    rw [hg'] at this
    simp at this

/-- The heap, its counts in the map, and the frame. -/
structure MS (w : World) (P C q : Nat) (wx : World) (xs : Array It) (nx : Int) (v : Value) (es : Array MapEntry) (clock : Nat) : Prop where
  hp : HeapAt wx P 23 v xs nx
  ord : Hp.Ord (lt idK) xs
  mc : MapC wx C q (cf xs) es clock
  wf : WfAll xs
  bel : Below w.heap.size w wx
  own : ∀ k, v.ownBlock = some k → w.heap.size ≤ k
  hP : w.heap.size ≤ P
  hC : w.heap.size ≤ C

theorem MS.below {w wx wy : World} {P C q : Nat} {xs : Array It} {nx : Int} {v : Value} {es : Array MapEntry} {clock : Nat} (h : MS w P C q wx xs nx v es clock) (hb : Below wx.heap.size wx wy) : MS w P C q wy xs nx v es clock :=
  ⟨h.hp.below hb, h.ord, h.mc.below hb, h.wf, h.bel.trans (hb.mono h.bel.size), h.own, h.hP, h.hC⟩

/-- A push and its count. -/
theorem MS.pushed {w wx wy wz : World} {P C q : Nat} {xs : Array It} {nx : Int} {v v' : Value} {es es' : Array MapEntry} {clock clock' : Nat} {a b : Int} (h : MS w P C q wx xs nx v es clock) (hx : Wf2 (a, b)) (hH : HeapAt wy P 23 v' (Hp.pushM (lt idK) xs ⟨a, b, nx⟩) (nx + 1)) (hS : Stp P wx v wy v')
    {wd : World} (hd : Below wy.heap.size wy wd) (hg : wd.grownBy wz (some C)) (hM : MapC wz C (q + 1) (upd (cf xs) (a, b) (cf xs (a, b) + 1)) es' clock') : MS w P C (q + 1) wz (Hp.pushM (lt idK) xs ⟨a, b, nx⟩) (nx + 1) v' es' clock' := by
  have hmy : MapC wd C q (cf xs) es clock := (map_keep h.mc h.hp hS).below hd
  have hBy : Below w.heap.size w wy := h.bel.trans ((hS.below h.bel.size h.hP h.own).mono (Nat.le_refl _))
  have hBd := hBy.trans (hd.mono hBy.size)
  refine ⟨heap_keep hmy (hH.below hd) hg, Hp.pushM_ord (lt_swo idK) xs _ h.ord, by rw [cf_push]; exact hM, wf_push h.wf hx, hBd.grown hg hBd.size (fun k hk => by obtain rfl := Option.some.inj hk; exact h.hC), fun k hk => ?_, h.hP, h.hC⟩
  rcases hS.row k hk with h1 | h1
  · exact h.own k h1
  · have := h.bel.size; omega
/-- A pop and its count. -/
theorem MS.popped {w wx wy wz : World} {P C q : Nat} {xs : Array It} {nx : Int} {v v' : Value} {es es' : Array MapEntry} {clock clock' : Nat} (h : MS w P C q wx xs nx v es clock) (h0 : 0 < xs.size) (hH : HeapAt wy P 23 v' (Hp.popM (lt idK) xs) nx) (hS : Stp P wx v wy v')
    {wd : World} (hd : Below wy.heap.size wy wd) (hg : wd.grownBy wz (some C)) (hM : MapC wz C (q + 1) (upd (cf xs) (pair xs[0]!) (cf xs (pair xs[0]!) - 1)) es' clock') : MS w P C (q + 1) wz (Hp.popM (lt idK) xs) nx v' es' clock' := by
  have hmy : MapC wd C q (cf xs) es clock := (map_keep h.mc h.hp hS).below hd
  have hBy : Below w.heap.size w wy := h.bel.trans ((hS.below h.bel.size h.hP h.own).mono (Nat.le_refl _))
  have hBd := hBy.trans (hd.mono hBy.size)
  refine ⟨heap_keep hmy (hH.below hd) hg, Hp.popM_ord (lt_swo idK) xs h.ord, by rw [cf_pop xs h0]; exact hM, (wf_pop h.wf h0).1, hBd.grown hg hBd.size (fun k hk => by obtain rfl := Option.some.inj hk; exact h.hC), fun k hk => ?_, h.hP, h.hC⟩
  rcases hS.row k hk with h1 | h1
  · exact h.own k h1
  · have := h.bel.size; omega

/-- Whatever the range hands out is nought, where every count is nought. -/
theorem range_zero {w : World} {b r n q cnt : Nat} {D : DataW Unit} {left : Lit → Bool} {es : Array MapEntry} {clock : Nat} (h : w.ranges Try.prog 26 mR b r n D left cnt) (hM : MapC w b q (fun _ => 0) es clock)
    {key v : Value} {kl : Lit} {y : DataW Unit × List MemPlace} (hk : keyOf Try.prog 26 key = some kl) (hat : ∀ zd, D.atKey kl zd = y.1) (hv : mR v = some y) : v = .int .i64 0 := by
  obtain ⟨es2, clock2, _, _, _, hb, F, _, hD, _⟩ := h
  have e := hM.at_
  rw [hb] at e
  simp only [Option.some.injEq, Obj.map.injEq] at e
  obtain ⟨rfl, rfl⟩ := e
  obtain ⟨a, rfl, hy, _⟩ := plainElem_int_inv Try.underlying3 hv
  rcases fit_look false m_keyed Try.underlying47 (m_zero w) hb F hk with ⟨_, _, h2⟩ | ⟨e0, y0, he0, _, _, hR, h2, _⟩
  · have h3 := hat (.lit (.bool true))
    rw [hD, h2, hy] at h3
    simp at h3
  · obtain ⟨x, _, _, hval⟩ := hM.ent e0 he0
    rw [hval] at hR
    obtain ⟨a0, ha0, hy0, _⟩ := plainElem_int_inv Try.underlying3 hR
    simp at ha0
    have h3 := hat (.lit (.bool true))
    rw [hD, h2, hy, hy0] at h3
    simp at h3
    rw [← h3, ← ha0]

theorem MapC.owns {w : World} {b n : Nat} {f : Int × Int → Int} {es : Array MapEntry} {clock : Nat} (h : MapC w b n f es clock) : ∃ D, w.ownsMap Try.prog 26 mR b n D := ⟨_, es, clock, h.at_, h.fit, h.size, rfl⟩
/-- A list of items lies in no map. -/
theorem Arr2.noMap {w : World} {ao : Option Addr} {n cap : Nat} {l : List (Int × Int)} {C q : Nat} {f : Int × Int → Int} {es : Array MapEntry} {clock : Nat} (h : Arr2 w (.slice ao n cap) l) (h0 : 0 < n) (hM : MapC w C q f es clock) : ∀ b off, ao = some ⟨b, off, none⟩ → b ≠ C := by
  intro b off e hbC
  subst hbC
  have hl : l.length = n := by
    obtain ⟨ao', cap', hv, _⟩ := h
    simp only [Value.slice.injEq] at hv
    exact hv.2.1.symm
  obtain ⟨bb, of2, e2, _, c0, _⟩ := h.at 0 (by omega)
  rw [e] at e2
  simp only [Option.some.injEq, Addr.mk.injEq, and_true] at e2
  obtain ⟨rfl, rfl⟩ := e2
  simp [World.cell?, hM.at_] at c0
end Go.Proofs.Ytjdkaagkaambkaa
