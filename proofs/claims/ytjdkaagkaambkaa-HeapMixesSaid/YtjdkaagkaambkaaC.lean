/- Push, Pop, Peek, Len, New of the heap, each by a contract. -/
import Derived.Test.YtjdkaagkaambkaaB
import Derived.Deep.RegionLaw
namespace Go.Proofs.Ytjdkaagkaambkaa
open Go.RowKit Go.Proofs

/-- From w, where the heap at p has its array in v, to w', where it has it in v': nothing else that stood has turned; the array is the old block or a new one. -/
structure Stp (p : Nat) (w : World) (v : Value) (w' : World) (v' : Value) : Prop where
  os : w'.os = w.os
  tape : w'.tape = w.tape
  output : w'.output = w.output
  size : w.heap.size ≤ w'.heap.size
  block : ∀ k, k < w.heap.size → k ≠ p → some k ≠ v.ownBlock → w'.heap[k]? = w.heap[k]?
  row : ∀ k, v'.ownBlock = some k → v.ownBlock = some k ∨ w.heap.size ≤ k

theorem Stp.refl (p : Nat) (w : World) (v : Value) : Stp p w v w v := ⟨rfl, rfl, rfl, Nat.le_refl _, fun _ _ _ _ => rfl, fun _ h => .inl h⟩
theorem Stp.trans {p : Nat} {w a b : World} {v v1 v2 : Value} (h : Stp p w v a v1) (k : Stp p a v1 b v2) : Stp p w v b v2 := by
  refine ⟨k.os.trans h.os, k.tape.trans h.tape, k.output.trans h.output, Nat.le_trans h.size k.size, fun i hi hp hv => ?_, fun i hi => ?_⟩
  · rw [k.block i (by have := h.size; omega) hp (fun e => ?_)]
    · exact h.block i hi hp hv
    · rcases h.row i e.symm with h1 | h1
      · exact hv h1.symm
      · omega
  · rcases k.row i hi with h1 | h1
    · exact h.row i h1
    · right; have := h.size; omega
theorem Stp.of_below {p : Nat} {w w' : World} {v : Value} (h : Below w.heap.size w w') : Stp p w v w' v := ⟨h.os, h.tape, h.output, h.size, fun k hk _ _ => h.block k hk, fun _ h => .inl h⟩
theorem Stp.of_grown {p : Nat} {w w' : World} {v : Value} (h : w.grownBy w' v.ownBlock) : Stp p w v w' v := ⟨h.os, h.tape, h.output, h.size, fun k hk _ hv => h.block k hk hv, fun _ h => .inl h⟩
theorem Stp.below {p B : Nat} {w w' : World} {v v' : Value} (h : Stp p w v w' v') (hB : B ≤ w.heap.size) (hp : B ≤ p) (hv : ∀ k, v.ownBlock = some k → B ≤ k) : Below B w w' :=
  ⟨h.os, h.tape, h.output, h.size, fun k hk => h.block k (by omega) (by omega) (fun e => by have := hv k e.symm; omega)⟩

/-- Another heap is left alone. -/
theorem HeapAt.apartOf {w w' : World} {p q f f' : Nat} {v v' u : Value} {xs ys : Array It} {nx ny : Int} (h : HeapAt w q f u ys ny) (k : HeapAt w p f' v xs nx) (s : Stp p w v w' v') (hpq : q ≠ p) (hr : u.ownBlock = none ∨ u.ownBlock ≠ v.ownBlock) :
    HeapAt w' q f u ys ny := by
  have hq : some q ≠ v.ownBlock := by
    intro e
    rcases k.row.2 with ⟨rfl, _⟩ | ⟨g, cap, cur, rfl, _, hg, _⟩
    · simp [Value.ownBlock] at e
    · simp [Value.ownBlock] at e
      subst e
      have := h.st
      rw [hg] at this
      simp at this
  refine ⟨by rw [s.block q h.lt hpq hq]; exact h.st, ?_, h.small⟩
  refine ⟨h.row.1, ?_⟩
  rcases h.row.2 with hn | ⟨g, cap, cur, rfl, hb, hg, rest⟩
  · exact .inl hn
  · refine .inr ⟨g, cap, cur, rfl, hb, ?_, rest⟩
    rw [s.block g (Array.getElem?_eq_some_iff.1 hg).1 ?_ ?_]
    · exact hg
    · rintro rfl
      have := k.st
      rw [hg] at this
      simp at this
    · rcases hr with hr | hr
      · simp [Value.ownBlock] at hr
      · simpa [Value.ownBlock] using hr

theorem Try.info67 : (Try.prog.info? 67).map (fun i => (i.zero, i.size, i.bytes)) = some (some (.agg #[.int .i64 0, .int .i64 0, .int .i64 0]), 3, 24) := by kernel_rfl

theorem HeapAt.next {w : World} {p fid : Nat} {v : Value} {xs : Array It} {nx : Int} (h : HeapAt w p fid v xs nx) (m : Int) :
    HeapAt (w.setCell ⟨p, 2, none⟩ (.int .i64 m)) p fid v xs m ∧ Stp p w v (w.setCell ⟨p, 2, none⟩ (.int .i64 m)) v := by
  have hg : w.grownBy (w.setCell ⟨p, 2, none⟩ (.int .i64 m)) (some p) := ⟨rfl, rfl, rfl, by simp, fun k _ hk => heap_setCell_other w ⟨p, 2, none⟩ k _ (fun e => hk (by rw [e]))⟩
  refine ⟨⟨?_, h.row.kept hg (.inr h.apart), h.small⟩, ⟨rfl, rfl, rfl, by simp, fun k hk hkp _ => heap_setCell_other w ⟨p, 2, none⟩ k _ (fun e => hkp e), fun _ hk => .inl hk⟩⟩
  have := heap_setCell_same w p 2 _ _ (.int .i64 m) h.st
  simpa using this

def PushMid (w : World) (p fid : Nat) (v : Value) (xs : Array It) (x : It) (nx : Int) (w' : World) : Prop :=
  ∃ v', HeapAt w' p fid v' (xs.push x) nx ∧ Stp p w v w' v'

theorem push_mid {w a w1 : World} {p fid : Nat} {v : Value} {xs : Array It} {x : It} {nx : Int} {g cap : Nat} (hH : HeapAt w p fid v xs nx) (hs : xs.size + 1 ≤ 1000000) (hb : Below w.heap.size w a)
    (hown : w1.ownsRow 0 67 3 (.slice (some ⟨g, 0, none⟩) (xs.size + 1) cap) (xs.size + 1) (flat xs.toList ++ [.int .i64 x.k, .int .i64 x.n, .int .i64 x.s]))
    (hgrow : a.grownBy w1 v.ownBlock) (hat : v.ownBlock = some g ∨ g = a.heap.size) :
    PushMid w p fid v xs x nx (w1.setCell ⟨p, 1, none⟩ (.slice (some ⟨g, 0, none⟩) (xs.size + 1) cap)) := by
  have hHa := hH.below hb
  have hst : w1.heap[p]? = some (.cells #[.func (.func fid) #[] #[], v, .int .i64 nx] 65 (0, 0)) := by rw [hgrow.block p hHa.lt (Ne.symm hHa.apart)]; exact hHa.st
  have hgp : g ≠ p := by
    rintro rfl
    rcases hat with h | h
    · exact hH.apart h
    · have := hHa.lt; omega
  refine ⟨.slice (some ⟨g, 0, none⟩) (xs.size + 1) cap, ⟨?_, ?_, by simpa using hs⟩, ?_⟩
  · have := heap_setCell_same w1 p 1 _ _ (.slice (some ⟨g, 0, none⟩) (xs.size + 1) cap) hst
    simpa using this
  · unfold Row
    have hg2 : w1.grownBy (w1.setCell ⟨p, 1, none⟩ (.slice (some ⟨g, 0, none⟩) (xs.size + 1) cap)) (some p) :=
      ⟨rfl, rfl, rfl, by simp, fun k _ hk => heap_setCell_other w1 ⟨p, 1, none⟩ k _ (fun e => hk (by rw [e]))⟩
    have := hown.kept hg2 (.inr (by simpa [Value.ownBlock] using hgp))
    simpa [flat_append, flat] using this
  · refine ⟨?_, ?_, ?_, ?_, fun k hk hkp hkv => ?_, fun k hk => ?_⟩
    · exact hgrow.os.trans hb.os
    · exact hgrow.tape.trans hb.tape
    · exact hgrow.output.trans hb.output
    · have := hgrow.size; have := hb.size; simp; omega
    · rw [heap_setCell_other w1 ⟨p, 1, none⟩ k _ (fun e => hkp e), hgrow.block k (by have := hb.size; omega) hkv, hb.block k hk]
    · simp [Value.ownBlock] at hk
      subst hk
      rcases hat with h | h
      · exact .inl h
      · right; have := hb.size; omega

theorem push_cells {w a w1 : World} {p fid : Nat} {v : Value} {xs : Array It} {nx : Int} (hH : HeapAt w p fid v xs nx) (hb : Below w.heap.size w a) (hgrow : a.grownBy w1 v.ownBlock) :
    w1.cell? ⟨p, 1, none⟩ = some v ∧ w1.frozen? ⟨p, 1, none⟩ = false := by
  have hHa := hH.below hb
  have hst : w1.heap[p]? = some (.cells #[.func (.func fid) #[] #[], v, .int .i64 nx] 65 (0, 0)) := by rw [hgrow.block p hHa.lt (Ne.symm hHa.apart)]; exact hHa.st
  exact ⟨cell_of_row w1 p 1 _ _ _ hst, by simp [World.frozen?, hst]⟩

set_option maxHeartbeats 4000000 in
set_option maxRecDepth 1000000 in
theorem push_any (fid : Nat) (K : Int → Int) (hL : LessOK fid K) (hrun : RunOK fid) (p : Nat) (v : Value) (xs : Array It) (nx k n : Int) (w : World) (hH : HeapAt w p fid v xs nx) (hs : xs.size + 1 ≤ 1000000) (hn0 : 0 ≤ nx) (hn1 : nx ≤ 1000000) :
    Calls Try.prog 16 #[.pointer (some ⟨p, 0, none⟩), .agg #[.int .i64 k, .int .i64 n]] w fun e w' => e = .returned (.tuple #[]) ∧ ∃ v', HeapAt w' p fid v' (Hp.pushM (lt K) xs ⟨k, n, nx⟩) (nx + 1) ∧ Stp p w v w' v' := by
  obtain ⟨j0, hj0, hz0, hz1, hz2⟩ := info_parts Try.info67
  obtain ⟨c0, c1, c2, cf⟩ := hH.cells
  have hlt := hH.lt
  have HH := Lib.hid hH
  have HL := Lib.hid hL
  have HR := Lib.hid hrun
  have hrow := Lib.hid hH.row
  have hap := Lib.hid hH.apart
  clear hH hL hrun
  go_enter Try.func16, Try.ntmps16
  go_upto_region 2 with fail
  go_cut [18] (fun _ w' => PushMid w p fid v xs ⟨k, n, nx⟩ nx w')
  case first =>
    go_region_law
      ((refine step_append_lies _ (by rfl) _ _ _ (by rfl) 0 67 j0 _ 3 24 Try.underlying63 hj0 hz0 hz1 hz2 rfl (by omega) v xs.size (flat xs.toList) (by rfl) (((World.ownsRow.alloc hrow.out _).alloc _).drew) ⟨w.heap.size + 1, 0, none⟩ 1 1 [.int .i64 k, .int .i64 n, .int .i64 nx] (by rfl) (by rfl) (World.news_of_block (cs := #[.int .i64 k, .int .i64 n, .int .i64 nx]) (t := 67) (fr := (0, 0)) (two_alloc w _ _).2.2.1) (by simp [Value.oneCell']) (by omega) (by unfold maxLen; omega) (by omega) (Nat.zero_le _) _ rfl ?_; intro gg cap w1 hown1 hgrow hat hlt; obtain ⟨q1, q2⟩ := push_cells HH.out (two_alloc w _ _).1 hgrow))
    all_goals
      go_wp2_with fail
      go_meet
      case rel => exact push_mid HH.out hs (two_alloc w _ _).1 hown1 hgrow hat
  case rest =>
    obtain ⟨v', hH', hs'⟩ := hcut
    obtain ⟨ao, m, cap, hm, rfl⟩ : ∃ ao m cap, m = xs.size + 1 ∧ v' = .slice ao m cap := by
      obtain ⟨ao, cap, e⟩ := hH'.slice
      exact ⟨ao, _, cap, by simp, e⟩
    obtain ⟨d0, d1, d2, df⟩ := hH'.cells
    obtain ⟨hHn, hsn⟩ := hH'.next (nx + 1)
    have HHn := Lib.hid hHn
    have HSn := Lib.hid (hs'.trans hsn)
    have HM := Lib.hid hm
    have hm1 : (m : Int) ≤ 1000000 := by omega
    have hm2 : (1 : Int) ≤ (m : Int) := by omega
    clear hm hHn hsn hs' hH'
    go_wp2_with fail
    refine (up_any fid K HL.out HR.out p _ (xs.push ⟨k, n, nx⟩) (nx + 1) _ _ HHn.out ?_ ?_).mono ?_
    · omega
    · rw [Array.size_push, ← HM.out]; omega
    rintro e w2 ⟨rfl, hH2, hg2⟩
    have HH2 := Lib.hid hH2
    have HG2 := Lib.hid hg2
    clear hH2 hg2
    go_wp2_with fail
    go_end0
    refine ⟨rfl, _, ?_, HSn.out.trans (Stp.of_grown HG2.out)⟩
    have := HH2.out
    rw [show ((m : Int) - 1).toNat = xs.size from by have := HM.out; omega] at this
    exact this

theorem len_any (p fid : Nat) (v : Value) (xs : Array It) (nx : Int) (w : World) (hH : HeapAt w p fid v xs nx) :
    Calls Try.prog 30 #[.pointer (some ⟨p, 0, none⟩)] w fun e w' => e = .returned (.int .i64 xs.size) ∧ w = w' := by
  obtain ⟨ao, cap, rfl⟩ := hH.slice
  obtain ⟨c0, c1, c2, cf⟩ := hH.cells
  clear hH
  go_enter Try.func30, Try.ntmps30
  go_wp2
  go_ret
  exact ⟨rfl, rfl⟩

theorem fn_ne_nil (fid : Nat) (w : World) : (Go.binOp .eql 32 (.func (.func fid) #[] #[]) .nilFunc).run Try.prog w = .ok (.bool false) w := by kernel_rfl
theorem nil_eq_nil (w : World) : (Go.binOp .eql 32 .nilFunc .nilFunc).run Try.prog w = .ok (.bool true) w := by kernel_rfl

theorem new_any (fid : Nat) (w : World) :
    Calls Try.prog 14 #[.func (.func fid) #[] #[]] w fun e w' => e = .returned (.pointer (some ⟨w.heap.size, 0, none⟩)) ∧ w.alloc (.cells #[.func (.func fid) #[] #[], .slice none 0 0, .int .i64 0] 65) = w' := by
  have q := fn_ne_nil fid
  go_enter Try.func14, Try.ntmps14
  go_wp2
  go_ret
  exact ⟨rfl, rfl⟩
theorem new_nil (w : World) :
    Calls Try.prog 14 #[.nilFunc] w fun e w' => e = .returned (.pointer none) ∧ w = w' := by
  have q := nil_eq_nil
  go_enter Try.func14, Try.ntmps14
  go_wp2
  go_ret
  exact ⟨rfl, rfl⟩

end Go.Proofs.Ytjdkaagkaambkaa
