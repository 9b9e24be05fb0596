/- Lists of items in memory; 'pushed', 'popped', 'Same', each by a contract. -/
import Derived.Test.YtjdkaagkaambkaaD
namespace Go.Proofs.Ytjdkaagkaambkaa
open Go.RowKit Go.Proofs

def flat2 : List (Int × Int) → List Value
  | [] => []
  | x :: l => .int .i64 x.1 :: .int .i64 x.2 :: flat2 l
theorem flat2_len (l : List (Int × Int)) : (flat2 l).length = l.length * 2 := by
  induction l with
  | nil => rfl
  | cons x l ih => simp [flat2, ih]; omega
theorem flat2_append (l m : List (Int × Int)) : flat2 (l ++ m) = flat2 l ++ flat2 m := by
  induction l with
  | nil => rfl
  | cons x l ih => simp [flat2, ih]
theorem flat2_get (l : List (Int × Int)) : ∀ i (h : i < l.length), (flat2 l)[i * 2]? = some (.int .i64 l[i].1) ∧ (flat2 l)[i * 2 + 1]? = some (.int .i64 l[i].2) := by
  induction l with
  | nil => intro i h; cases h
  | cons x l ih =>
    intro i h
    cases i with
    | zero => simp [flat2]
    | succ i =>
      have := ih i (by simpa using h)
      simp only [flat2, Nat.succ_mul]
      simpa using this

/-- A slice of items that reads as l, wherever it lies. -/
def Arr2 (w : World) (v : Value) (l : List (Int × Int)) : Prop := ∃ ao cap, v = .slice ao l.length cap ∧
  (0 < l.length → ∃ b off, ao = some ⟨b, off, none⟩ ∧ b < w.heap.size ∧ ∀ i (h : i < l.length), w.cell? ⟨b, off + i * 2, none⟩ = some (.int .i64 l[i].1) ∧ w.cell? ⟨b, off + i * 2 + 1, none⟩ = some (.int .i64 l[i].2))
theorem Arr2.below {w w' : World} {v : Value} {l : List (Int × Int)} (h : Arr2 w v l) (hb : Below w.heap.size w w') : Arr2 w' v l := by
  obtain ⟨ao, cap, hv, h⟩ := h
  refine ⟨ao, cap, hv, fun h0 => ?_⟩
  obtain ⟨b, off, ha, hlt, hc⟩ := h h0
  exact ⟨b, off, ha, Nat.lt_of_lt_of_le hlt hb.size, fun i hi => ⟨by rw [(bcell hb).1 _ _ hlt]; exact (hc i hi).1, by rw [(bcell hb).1 _ _ hlt]; exact (hc i hi).2⟩⟩

/-- A slice of items that the call owns. -/
def Row2 (B : Nat) (w : World) (v : Value) (l : List (Int × Int)) : Prop := w.ownsRow B 26 2 v l.length (flat2 l)
theorem Row2.slice {B : Nat} {w : World} {v : Value} {l : List (Int × Int)} (h : Row2 B w v l) : ∃ ao cap, v = .slice ao l.length cap := by
  rcases h.2 with ⟨h1, h2⟩ | ⟨g, cap, cur, h1, _⟩
  · exact ⟨none, 0, by rw [h1, h2]⟩
  · exact ⟨_, cap, h1⟩
theorem Row2.arr {B : Nat} {w : World} {v : Value} {l : List (Int × Int)} (h : Row2 B w v l) : Arr2 w v l := by
  rcases h.2 with ⟨h1, h2⟩ | ⟨g, cap, cur, h1, hb, hg, _⟩
  · exact ⟨none, 0, by rw [h1, h2], fun h0 => by omega⟩
  · subst h1
    refine ⟨_, cap, rfl, fun h0 => ⟨g, 0, rfl, (Array.getElem?_eq_some_iff.1 hg).1, fun i hi => ?_⟩⟩
    have := flat2_get l i hi
    simp only [Nat.zero_add]
    unfold Row2 at h
    rw [h.cellAt _ (by omega), h.cellAt _ (by omega)]
    exact this
/-- A heap's steps leave it. -/
theorem Row2.keep {B p f : Nat} {w w' : World} {vo v v' : Value} {l : List (Int × Int)} {xs : Array It} {nx : Int} (h : Row2 B w vo l) (k : HeapAt w p f v xs nx) (s : Stp p w v w' v') : Row2 B w' vo l := by
  refine ⟨h.1, ?_⟩
  rcases h.2 with hn | ⟨g, cap, cur, rfl, hb, hg, rest⟩
  · exact .inl hn
  · refine .inr ⟨g, cap, cur, rfl, hb, ?_, rest⟩
    rw [s.block g (Array.getElem?_eq_some_iff.1 hg).1 ?_ ?_]
    · exact hg
    · rintro rfl
      have := k.st
      rw [hg] at this
      simp at this
    · intro e
      rcases k.row.2 with ⟨rfl, _⟩ | ⟨g', cap', cur', rfl, _, hg', _⟩
      · simp [Value.ownBlock] at e
      · simp [Value.ownBlock] at e
        subst e
        rw [hg] at hg'
        simp at hg'
theorem Row2.below {B : Nat} {w w' : World} {v : Value} {l : List (Int × Int)} (h : Row2 B w v l) (hb : Below w.heap.size w w') : Row2 B w' v l :=
  World.ownsRow.kept h (row := none) ⟨hb.os, hb.tape, hb.output, hb.size, fun k hk _ => hb.block k hk⟩ (by cases v.ownBlock <;> simp)
/-- An append to a slice of items leaves the heap. -/
theorem HeapAt.keepRow {B p f : Nat} {w a w' : World} {vo v : Value} {l : List (Int × Int)} {xs : Array It} {nx : Int} (k : HeapAt w p f v xs nx) (h : Row2 B w vo l) (hb : Below w.heap.size w a) (s : a.grownBy w' vo.ownBlock) : HeapAt w' p f v xs nx := by
  have ka := k.below hb
  have ha := h.below hb
  refine ⟨?_, ?_, k.small⟩
  · rw [s.block p ka.lt ?_]
    · exact ka.st
    · intro e
      rcases ha.2 with ⟨rfl, _⟩ | ⟨g, cap, cur, rfl, _, hg, _⟩
      · simp [Value.ownBlock] at e
      · simp [Value.ownBlock] at e
        subst e
        have := ka.st
        rw [hg] at this
        simp at this
  · refine ka.row.kept s ?_
    rcases ka.row.2 with ⟨rfl, _⟩ | ⟨g, cap, cur, rfl, _, hg, _⟩
    · exact .inl rfl
    · right
      intro e
      rcases ha.2 with ⟨rfl, _⟩ | ⟨g', cap', cur', rfl, _, hg', _⟩
      · simp [Value.ownBlock] at e
      · simp [Value.ownBlock] at e
        subst e
        rw [hg] at hg'
        simp at hg'
theorem Stp.grow {p : Nat} {w0 a a' w' : World} {v0 v : Value} {r : Option Nat} (h : Stp p w0 v0 a v) (hb : Below a.heap.size a a') (s : a'.grownBy w' r) (hr : ∀ k, r = some k → w0.heap.size ≤ k) : Stp p w0 v0 w' v :=
  ⟨s.os.trans (hb.os.trans h.os), s.tape.trans (hb.tape.trans h.tape), s.output.trans (hb.output.trans h.output), Nat.le_trans h.size (Nat.le_trans hb.size s.size),
    fun k hk hp hv => by
      have h1 := h.size
      have h2 := hb.size
      rw [s.block k (by omega) (fun e => by have := hr k e.symm; omega), hb.block k (by omega), h.block k hk hp hv],
    h.row⟩
theorem Row2.blk {B : Nat} {w : World} {v : Value} {l : List (Int × Int)} (h : Row2 B w v l) : ∀ k, v.ownBlock = some k → B ≤ k := fun k hk => (h.lt k hk).1

theorem alloc2_new (w : World) (o1 o2 : Obj) : ((w.alloc o1).alloc o2).heap[w.heap.size + 1]? = some o2 := by
  have := heap_alloc_new (w.alloc o1) o2
  simpa using this
theorem alloc2_below (w : World) (o1 o2 : Obj) : Below w.heap.size w ((w.alloc o1).alloc o2) := ((Below.refl _ _).alloc (Nat.le_refl _) _).alloc (by simp) _
theorem news_pair {w : World} {B : Nat} {a b : Int} (h : w.heap[B]? = some (.cells #[.int .i64 a, .int .i64 b] 26 (0, 0))) : ∀ j u, [Value.int .i64 a, Value.int .i64 b][j]? = some u → w.cell? ((⟨B, 0, none⟩ : Addr).add j) = some u :=
  World.news_of_block (cs := #[.int .i64 a, .int .i64 b]) h
theorem one_pair (a b : Int) : ∀ u ∈ [Value.int .i64 a, Value.int .i64 b], u.oneCell' = true := by simp [Value.oneCell']

theorem Try.info26 : (Try.prog.info? 26).map (fun i => (i.zero, i.size, i.bytes)) = some (some (.agg #[.int .i64 0, .int .i64 0]), 2, 16) := by kernel_rfl

def pair (x : It) : Int × Int := (x.k, x.n)

theorem drain_succ (K : Int → Int) (n : Nat) (ys : Array It) : (Hp.drain (lt K) (n + 1) ys) = ys[0]! :: Hp.drain (lt K) n (Hp.popM (lt K) ys) := rfl

/-- After j rounds of 'popped': out holds what was popped, the heap the rest. -/
def PoppedRel (w : World) (K : Int → Int) (p fid : Nat) (v : Value) (nx : Int) (xs : Array It) (vo jv : Value) (wr : World) : Prop :=
  ∃ (j : Nat) (out : List (Int × Int)) (v' : Value) (ys : Array It), jv = .int .i64 j ∧ j ≤ xs.size ∧ out.length = j ∧ ys.size + j = xs.size ∧ Row2 w.heap.size wr vo out ∧ HeapAt wr p fid v' ys nx ∧ Stp p w v wr v' ∧
    (Hp.drain (lt K) xs.size xs).map pair = out ++ (Hp.drain (lt K) ys.size ys).map pair

def PoppedEnd (w : World) (K : Int → Int) (p fid : Nat) (v : Value) (nx : Int) (xs : Array It) (e : Ending) (w' : World) : Prop :=
  ∃ vo v' ys, e = .returned vo ∧ Row2 w.heap.size w' vo ((Hp.drain (lt K) xs.size xs).map pair) ∧ HeapAt w' p fid v' ys nx ∧ ys.size = 0 ∧ Stp p w v w' v'

set_option maxHeartbeats 4000000 in
set_option maxRecDepth 1000000 in
theorem popped_any (fid : Nat) (K : Int → Int) (hL : LessOK fid K) (hrun : RunOK fid) (p : Nat) (v : Value) (xs : Array It) (nx : Int) (w : World) (hH : HeapAt w p fid v xs nx) (hs : xs.size ≤ 900) :
    Calls Try.prog 12 #[.pointer (some ⟨p, 0, none⟩)] w (PoppedEnd w K p fid v nx xs) := by
  have hrel0 : Hid (PoppedRel w K p fid v nx xs (.slice none 0 0) (.int .i64 0) w) :=
    Lib.hid ⟨0, [], v, xs, rfl, Nat.zero_le _, rfl, rfl, World.ownsRow_nil _ _ _ _, hH, Stp.refl _ _ _, rfl⟩
  obtain ⟨j0, hj0, hz0, hz1, hz2⟩ := info_parts Try.info26
  have HL := Lib.hid hL
  have HR := Lib.hid hrun
  clear hH hL hrun
  go_enter Try.func12, Try.ntmps12
  go_wp2_with fail
  go_loopg [3, 6] (1000 - 0) (fun g vo jv wr => PoppedRel w K p fid v nx xs vo jv wr ∧ 1000 ≤ g + (intOf jv).toNat)
  case atStart => exact ⟨hrel0.out, by simp [intOf]⟩
  case round =>
    clear hrel0
    obtain ⟨⟨j, out, v', ys, rfl, hjx, hlen, hsz, hrow, hHy, hst, hdr⟩, hg⟩ := hrel
    simp only [intOf, Int.toNat_natCast] at hg
    have HRow := Lib.hid hrow
    have HHy := Lib.hid hHy
    have HSt := Lib.hid hst
    have HDr := Lib.hid hdr
    have HLen := Lib.hid hlen
    have HSz := Lib.hid hsz
    have hj9 : (j : Int) < 1000 := by omega
    clear hrow hHy hst hdr hlen hsz
    by_cases h0 : ys.size = 0
    · have H0 := Lib.hid h0
      clear h0
      go_wp2_with fail
      refine (pop_empty p fid v' ys nx _ HHy.out H0.out).mono ?_
      rintro e w1 ⟨rfl, hb1⟩
      have HB1 := Lib.hid hb1
      clear hb1
      go_wp2_with fail
      go_ret
      go_light
      have hb2 : ∀ o, Below wr.heap.size wr (w1.alloc o) := fun o => HB1.out.alloc HB1.out.size o
      refine ⟨u3, v', ys, rfl, ?_, HHy.out.below (hb2 _), H0.out, HSt.out.trans (Stp.of_below (hb2 _))⟩
      have h1 := HDr.out
      rw [H0.out] at h1
      simp only [Hp.drain, List.map_nil, List.append_nil] at h1
      rw [h1]
      exact HRow.out.below (hb2 _)
    · obtain ⟨m, hm⟩ : ∃ m, ys.size = m + 1 := ⟨ys.size - 1, by omega⟩
      have HM := Lib.hid hm
      have hjm : j + m + 1 ≤ 900 := by have := HSz.out; omega
      clear h0 hm
      go_wp2_with fail
      refine (pop_some fid K HL.out HR.out p v' ys nx _ HHy.out (by have := HM.out; omega)).mono ?_
      rintro e w1 ⟨rfl, v'', hH1, hS1⟩
      have HH1 := Lib.hid hH1
      have HS1 := Lib.hid hS1
      have hRow1 := Lib.hid (HRow.out.keep HHy.out hS1)
      have hbase : Hid (w.heap.size ≤ w1.heap.size) := Lib.hid (Nat.le_trans HSt.out.size hS1.size)
      obtain ⟨a, ha⟩ : ∃ a, ys[0]!.k = a := ⟨_, rfl⟩
      obtain ⟨b, hb⟩ : ∃ a, ys[0]!.n = a := ⟨_, rfl⟩
      rw [ha, hb]
      have HA := Lib.hid ha
      have HB := Lib.hid hb
      clear hH1 hS1 ha hb
      go_wp2_with (at_builtin; refine wpList_append_lies _ rfl _ _ 24 rfl w.heap.size 26 j0 _ 2 16 Try.underlying24 hj0 hz0 hz1 hz2 rfl (by omega) u3 out.length (flat2 out) rfl ((World.ownsRow.alloc hRow1.out _).alloc _) ⟨w1.heap.size + 1, 0, none⟩ 1 1 [.int .i64 a, .int .i64 b] rfl rfl (news_pair (alloc2_new w1 _ _)) (one_pair _ _) (by omega) (by have := HLen.out; unfold maxLen; omega) (by have := HLen.out; omega) (by have := hbase.out; simp; omega) _ rfl ?_; intro gg cap w2 hown2 hgrow2 hat2 hlt2)
      have HO := Lib.hid hown2
      have HG := Lib.hid hgrow2
      clear hown2 hgrow2 hat2 hlt2
      go_wp2_with fail
      go_roundg (1000 - (j + 1))
      case measure => omega
      case rel =>
        refine ⟨⟨j + 1, out ++ [(a, b)], v'', Hp.popM (lt K) ys, by go_num, by have := HSz.out; have := HM.out; omega, by have := HLen.out; simp; omega, ?_, ?_, ?_, ?_, ?_⟩, by simp [intOf]; omega⟩
        · rw [Hp.popM_size]; have := HSz.out; have := HM.out; omega
        · unfold Row2
          rw [flat2_append]
          simpa [flat2] using HO.out
        · exact HH1.out.keepRow hRow1.out (alloc2_below w1 _ _) HG.out
        · exact Stp.grow (HSt.out.trans HS1.out) (alloc2_below w1 _ _) HG.out (fun k hk => HRow.out.blk k hk)
        · have h1 := HDr.out
          rw [HM.out, drain_succ] at h1
          rw [h1, Hp.popM_size, HM.out, Nat.add_sub_cancel, List.map_cons, List.append_assoc]
          rw [← HA.out, ← HB.out]
          rfl
end Go.Proofs.Ytjdkaagkaambkaa
