/- Remove of the heap, by a contract. -/
import Derived.Test.YtjdkaagkaambkaaS
namespace Go.Proofs.Ytjdkaagkaambkaa
open Go.RowKit Go.Proofs

/-- The function value with number fm and what it captured says M of an item, in every world that is good for it. -/
structure MatchOK (fm : Nat) (cap : Array Value) (M : Int × Int → Bool) (Good : World → Prop) : Prop where
  call : ∀ (k n : Int) (W : World), Good W → Calls Try.prog fm (#[.agg #[.int .i64 k, .int .i64 n]] ++ cap) W fun e w' => e = .returned (.bool (M (k, n))) ∧ Below W.heap.size W w'
  keep : ∀ W W' : World, Good W → Below W.heap.size W W' → Good W'
  run : RunOK fm

def kept (M : Int × Int → Bool) (l : List It) : List It := l.filter fun x => !M (pair x)

def RemRel1 (w : World) (M : Int × Int → Bool) (xs : Array It) (vo jv : Value) (wr : World) : Prop :=
  ∃ (j : Nat), jv = .int .i64 j ∧ j ≤ xs.size ∧ wr.ownsRow w.heap.size 67 3 vo (kept M (xs.toList.take j)).length (flat (kept M (xs.toList.take j))) ∧ Below w.heap.size w wr

theorem fn_ne_nil56 (fm : Nat) (cap : Array Value) (w : World) : (Go.binOp .eql 56 (.func (.func fm) #[] cap) .nilFunc).run Try.prog w = .ok (.bool false) w := by kernel_rfl
theorem one_it (a b c : Int) : ∀ u ∈ [Value.int .i64 a, Value.int .i64 b, Value.int .i64 c], u.oneCell' = true := by simp [Value.oneCell']
theorem news_it {w : World} {B : Nat} {a b c : Int} (h : w.heap[B]? = some (.cells #[.int .i64 a, .int .i64 b, .int .i64 c] 67 (0, 0))) : ∀ j u, [Value.int .i64 a, Value.int .i64 b, Value.int .i64 c][j]? = some u → w.cell? ((⟨B, 0, none⟩ : Addr).add j) = some u :=
  World.news_of_block (cs := #[.int .i64 a, .int .i64 b, .int .i64 c]) h

def RemEnd (w : World) (K : Int → Int) (M : Int × Int → Bool) (p fid : Nat) (v : Value) (xs : Array It) (nx : Int) (e : Ending) (w' : World) : Prop :=
  e = .returned (.int .i64 ((xs.size : Int) - ((kept M xs.toList).length : Int))) ∧ ∃ v', HeapAt w' p fid v' (Hp.heapify (lt K) ((kept M xs.toList).length / 2) (kept M xs.toList).toArray) nx ∧ Stp p w v w' v'

theorem rem_store {w w0 : World} {p fid m rc : Nat} {v : Value} {ra : Option Addr} {xs : Array It} {nx : Int} {zs : List It} (hH : HeapAt w p fid v xs nx)
    (hr : w.ownsRow w0.heap.size 67 3 (.slice ra m rc) zs.length (flat zs)) (hm : zs.length = m) (hs : m ≤ 1000000) :
    HeapAt (w.setCell ⟨p, 1, none⟩ (.slice ra m rc)) p fid (.slice ra m rc) zs.toArray nx := by
  have hst := heap_setCell_same w p 1 _ _ (.slice ra m rc) hH.st
  have hne : (Value.slice ra m rc).ownBlock ≠ some p := by
    intro e
    rcases hr.2 with ⟨h1, _⟩ | ⟨g, cap, cur, h1, _, hg, _⟩
    · rw [h1] at e; simp [Value.ownBlock] at e
    · rw [h1] at e
      simp [Value.ownBlock] at e
      subst e
      have := hH.st
      rw [hg] at this
      simp at this
  refine ⟨by simpa using hst, ?_, by simp; omega⟩
  unfold Row
  simp only [List.size_toArray]
  exact World.ownsRow.mono (hr.kept (row := some p) ⟨rfl, rfl, rfl, by simp, fun k _ hk => heap_setCell_other w ⟨p, 1, none⟩ k _ (fun e => hk (by rw [e]))⟩ (.inr hne)) (Nat.zero_le _)

set_option maxHeartbeats 4000000 in
set_option maxRecDepth 1000000 in
theorem remove_any (fid : Nat) (K : Int → Int) (hL : LessOK fid K) (hrun : RunOK fid) (fm : Nat) (cap : Array Value) (M : Int × Int → Bool) (Good : World → Prop) (hM : MatchOK fm cap M Good)
    (p : Nat) (v : Value) (xs : Array It) (nx : Int) (w : World) (hH : HeapAt w p fid v xs nx) (hs : xs.size ≤ 900) (hG : Good w) :
    Calls Try.prog 29 #[.pointer (some ⟨p, 0, none⟩), .func (.func fm) #[] cap] w (RemEnd w K M p fid v xs nx) := by
  have hq := fn_ne_nil56 fm cap
  obtain ⟨j0, hj0, hz0, hz1, hz2⟩ := info_parts Try.info67
  obtain ⟨ao, n, sc, hn, rfl⟩ : ∃ ao n sc, n = xs.size ∧ v = .slice ao n sc := by
    obtain ⟨ao, sc, e⟩ := hH.slice
    exact ⟨ao, _, sc, rfl, e⟩
  obtain ⟨c0, c1, c2, cf⟩ := hH.cells
  have hlt := hH.lt
  have HH := Lib.hid hH
  have HL := Lib.hid hL
  have HR := Lib.hid hrun
  have HM := Lib.hid hM
  have HG := Lib.hid hG
  have HN := Lib.hid hn
  have hn9 : n ≤ 900 := by omega
  have hn9' : (n : Int) ≤ 900 := by omega
  have hmr : ∀ args w, Sem.run Try.prog (callFunc fm args) w = .ok (.enter fm args) w := hM.run
  clear hH hL hrun hM hG hn hs
  go_enter Try.func29, Try.ntmps29
  go_wp2_with fail
  go_loopg [5, 21] (n - 0) (fun g vo jv wr => RemRel1 w M xs vo jv wr ∧ n ≤ g + (intOf jv).toNat)
  case atStart => exact ⟨⟨0, rfl, Nat.zero_le _, World.ownsRow_nil _ _ _ _, Below.refl _ _⟩, by simp [intOf]⟩
  case round =>
    obtain ⟨⟨j, rfl, hjx, hrow, hB⟩, hg⟩ := hrel
    simp only [intOf, Int.toNat_natCast] at hg
    have HRow := Lib.hid hrow
    have HB := Lib.hid hB
    have hjn : j ≤ n := by have := HN.out; omega
    clear hrow hB hjx
    by_cases hlt2 : j < n
    · have hlt2' : (j : Int) < (n : Int) := by omega
      have hjx : j < xs.size := by have := HN.out; omega
      obtain ⟨g, cap', e1, hgw, _⟩ := HH.out.form (by omega)
      simp only [Value.slice.injEq] at e1
      obtain ⟨rfl, e2, rfl⟩ := e1
      obtain ⟨i0, i1, i2⟩ := (HH.out.below HB.out).item j hjx
      obtain ⟨a, ha⟩ : ∃ a, xs[j]!.k = a := ⟨_, rfl⟩
      obtain ⟨b, hb⟩ : ∃ a, xs[j]!.n = a := ⟨_, rfl⟩
      obtain ⟨c, hc⟩ : ∃ a, xs[j]!.s = a := ⟨_, rfl⟩
      rw [ha] at i0
      rw [hb] at i1
      rw [hc] at i2
      have hxj : xs.toList[j]'(by simpa using hjx) = ⟨a, b, c⟩ := by
        have : xs.toList[j]'(by simpa using hjx) = xs[j]! := by rw [Hp.gp _ _ hjx]; simp
        rw [this, ← ha, ← hb, ← hc]
      have HXj := Lib.hid hxj
      have hkt : kept M (xs.toList.take (j + 1)) = kept M (xs.toList.take j) ++ (if M (a, b) then [] else [⟨a, b, c⟩]) := by
        rw [take_snoc xs.toList j (by simpa using hjx), HXj.out]
        unfold kept
        rw [List.filter_append]
        congr 1
        cases h : M (a, b) <;> simp [pair, h]
      have HKt := Lib.hid hkt
      have hgw2 : g < wr.heap.size := Nat.lt_of_lt_of_le hgw HB.out.size
      clear ha hb hc hxj hkt e2
      go_wp2_with fail
      have hBx := HB.out.alloc HB.out.size (.cells #[.int .i64 a, .int .i64 b, .int .i64 c] 67)
      refine (HM.out.call a b _ (HM.out.keep _ _ HG.out hBx)).mono ?_
      rintro e w1 ⟨rfl, hb1⟩
      have hx1 : w1.heap[wr.heap.size]? = some (.cells #[.int .i64 a, .int .i64 b, .int .i64 c] 67 (0, 0)) := by
        rw [hb1.block _ (by simp)]; exact heap_alloc_new wr _
      have x0 := cell_of_row w1 _ 0 _ _ _ hx1
      have x1 := cell_of_row w1 _ 1 _ _ _ hx1
      have x2 := cell_of_row w1 _ 2 _ _ _ hx1
      simp at x0 x1 x2
      have HB1 := Lib.hid (hBx.trans (hb1.mono hBx.size))
      have HRow1 := Lib.hid (World.ownsRow.kept (HRow.out.alloc (.cells #[.int .i64 a, .int .i64 b, .int .i64 c] 67)) (row := none) ⟨hb1.os, hb1.tape, hb1.output, hb1.size, fun k hk _ => hb1.block k hk⟩ (by cases u5.ownBlock <;> simp))
      clear hBx hb1 hx1
      cases hm : M (a, b) with
      | true =>
        have HMm := Lib.hid hm
        clear hm
        go_wp2_with fail
        go_roundg (n - (j + 1))
        case measure => go_light; omega
        case rel =>
          go_light
          refine ⟨⟨j + 1, by go_num, by omega, ?_, HB1.out⟩, by simp [intOf]; omega⟩
          rw [HKt.out, if_pos HMm.out, List.append_nil]
          exact HRow1.out
      | false =>
        have HMm := Lib.hid hm
        clear hm
        go_wp2_with (at_builtin; refine wpList_append_lies _ rfl _ _ 63 rfl w.heap.size 67 j0 _ 3 24 Try.underlying63 hj0 hz0 hz1 hz2 rfl (by omega) u5 (kept M (xs.toList.take j)).length (flat (kept M (xs.toList.take j))) rfl (World.ownsRow.alloc HRow1.out _) ⟨w1.heap.size, 0, none⟩ 1 1 [.int .i64 a, .int .i64 b, .int .i64 c] rfl rfl (news_it (heap_alloc_new w1 _)) (one_it _ _ _) (by omega) (by have h1 : (kept M (xs.toList.take j)).length ≤ j := Nat.le_trans (List.length_filter_le _ _) (List.length_take_le _ _); unfold maxLen; omega) (by have h1 : (kept M (xs.toList.take j)).length ≤ j := Nat.le_trans (List.length_filter_le _ _) (List.length_take_le _ _); omega) (by have := HB1.out.size; simp; omega) _ rfl ?_; intro gg cp w2 hown2 hgrow2 hat2 hlt3)
        have HO := Lib.hid hown2
        have HGr := Lib.hid hgrow2
        clear hown2 hgrow2 hat2 hlt3
        go_wp2_with fail
        go_roundg (n - (j + 1))
        case measure => go_light; omega
        case rel =>
          go_light
          refine ⟨⟨j + 1, by go_num, by omega, ?_, ?_⟩, by simp [intOf]; omega⟩
          · rw [HKt.out, if_neg (by rw [HMm.out]; simp), flat_append, List.length_append]
            simpa [flat] using HO.out
          · exact (HB1.out.alloc HB1.out.size _).grown HGr.out (by have := HB1.out.size; simp; omega) (fun k hk => (HRow.out.lt k hk).1)
    · obtain rfl : j = n := by omega
      have e1 : xs.toList.take j = xs.toList := List.take_of_length_le (by have := HN.out; simp; omega)
      rw [e1] at HRow
      obtain ⟨zs, hzs⟩ : ∃ zs, kept M xs.toList = zs := ⟨_, rfl⟩
      rw [hzs] at HRow
      have hzl : zs.length ≤ j := by rw [← hzs, HN.out]; exact Nat.le_trans (List.length_filter_le _ _) (by simp)
      obtain ⟨ra, rc, e2⟩ := own_form HRow.out
      obtain ⟨m, hm⟩ : ∃ m, zs.length = m := ⟨_, rfl⟩
      rw [hm] at e2 hzl
      subst e2
      have HZs := Lib.hid hzs
      have HM' := Lib.hid hm
      have hHr := HH.out.below HB.out
      obtain ⟨d0, d1, d2, df⟩ := hHr.cells
      have hm9 : (m : Int) ≤ 900 := by omega
      have hHs := rem_store hHr HRow.out hm (by omega)
      have HHs := Lib.hid hHs
      have hst : Stp p w (.slice ao j sc) (wr.setCell ⟨p, 1, none⟩ (.slice ra m rc)) (.slice ra m rc) :=
        ⟨HB.out.os, HB.out.tape, HB.out.output, by have := HB.out.size; simpa using this, fun k hk hkp _ => by rw [heap_setCell_other wr ⟨p, 1, none⟩ k _ hkp]; exact HB.out.block k hk, fun k hk => .inr ((HRow.out.lt k hk).1)⟩
      have HSt := Lib.hid hst
      clear hzs hm hHr hHs e1 HRow hst
      go_wp2_with fail
      go_loopg [9] (m / 2) (fun g iv wr2 => ∃ (k : Nat) (ys : Array It), iv = .int .i64 ((k : Int) - 1) ∧ k ≤ g ∧ k ≤ m ∧ ys.size = m ∧ HeapAt wr2 p fid (.slice ra m rc) ys nx ∧ Stp p w (.slice ao j sc) wr2 (.slice ra m rc) ∧ Hp.heapify (lt K) (m / 2) zs.toArray = Hp.heapify (lt K) k ys)
      case atStart =>
        go_light
        exact ⟨m / 2, zs.toArray, by congr 1, Nat.le_refl _, by omega, by simpa using HM'.out, HHs.out, HSt.out, rfl⟩
      case round =>
        clear d0 d1 d2 df c0 c1 c2 cf
        obtain ⟨k, ys, hiv, hkg, hkm, hys, hHy, hS, hheap⟩ := hrel
        have HHy := Lib.hid hHy
        have HS := Lib.hid hS
        have HHe := Lib.hid hheap
        have HYs := Lib.hid hys
        clear hHy hS hheap hys HHs HSt
        by_cases h0 : k = 0
        · have hiv2 : u9 = .int .i64 (-1) := by rw [hiv, h0]; rfl
          subst hiv2
          have H0 := Lib.hid h0
          clear h0 hiv
          go_wp2_with fail
          go_ret
          go_light
          refine ⟨?_, .slice ra m rc, ?_, HS.out⟩
          · rw [HZs.out, HM'.out, ← HN.out]; rfl
          · have h1 := HHe.out
            rw [H0.out] at h1
            simp only [Hp.heapify] at h1
            rw [HZs.out, HM'.out, h1]
            exact HHy.out
        · obtain ⟨q, rfl⟩ : ∃ q, k = q + 1 := ⟨k - 1, by omega⟩
          have hiv2 : u9 = .int .i64 (q : Int) := by rw [hiv]; congr 1; omega
          subst hiv2
          have hq0 : (0 : Int) ≤ (q : Int) := by omega
          have hq9 : (q : Int) ≤ 900 := by omega
          clear h0 hiv
          go_wp2_with fail
          refine (down_any fid K HL.out HR.out p _ ys nx _ _ HHy.out ?_ ?_).mono ?_
          · omega
          · have := HYs.out; omega
          rintro e w3 ⟨rfl, hH3, hg3⟩
          rw [Int.toNat_natCast] at hH3
          have HH3 := Lib.hid hH3
          have HG3 := Lib.hid hg3
          clear hH3 hg3
          go_wp2_with fail
          go_roundg q
          case measure => go_light; omega
          case rel =>
            go_light
            refine ⟨q, _, rfl, Nat.le_refl _, by omega, ?_, HH3.out, HS.out.trans (Stp.of_grown HG3.out), ?_⟩
            · rw [Hp.downM_size _ _ _ (Nat.le_refl _)]; exact HYs.out
            · rw [HHe.out]; rfl
end Go.Proofs.Ytjdkaagkaambkaa
