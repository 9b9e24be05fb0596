/- The heap that counts: Push and Pop. -/
import Derived.Test.YtjdkaagkaambkaaFd
namespace Go.Proofs.Ytjdkaagkaambkaa
open Go.RowKit Go.Proofs

theorem Try.info73 : (Try.prog.info? 73).map (fun i => (i.zero, i.size, i.bytes)) = some (some (.agg #[.int .u16 0, .int .i64 0]), 2, 16) := by kernel_rfl
theorem one_alloc (w : World) (o : Obj) : Below w.heap.size w ((w.alloc o).drew) ∧ ((w.alloc o).drew).heap[w.heap.size]? = some o :=
  ⟨((Below.refl _ _).alloc (Nat.le_refl _) _).drew, by show (w.alloc o).heap[w.heap.size]? = _; exact heap_alloc_new w o⟩

theorem HU.store {B : Nat} {w w1 : World} {p q : Nat} {v v' : Value} {n' : Nat} {nx k : Int} (hst : w1.heap[p]? = some (.cells #[cntF q, v, .int .i64 nx] 71 (0, 0))) (hcnt : w1.heap[q]? = some (.cells #[.int .i64 k] 3 (0, 0))) (hBp : B ≤ p) (hBq : B ≤ q) (hpq : p ≠ q)
    {xs : List (Int × Int)} (hr : RowU B w1 v' n' xs) (hv' : v'.ownBlock ≠ some p) (hn : n' ≤ 1000000) (hb : Below B w w1) (hB : B ≤ w1.heap.size) :
    HU B (w1.setCell ⟨p, 1, none⟩ v') p q v' n' nx k ∧ Below B w (w1.setCell ⟨p, 1, none⟩ v') := by
  have hg : w1.grownBy (w1.setCell ⟨p, 1, none⟩ v') (some p) := ⟨rfl, rfl, rfl, by simp, fun k _ hk => heap_setCell_other w1 ⟨p, 1, none⟩ k _ (fun e => hk (by rw [e]))⟩
  refine ⟨⟨?_, ⟨xs, hr.1, hr.2.kept hg (.inr hv')⟩, ?_, hBp, hBq, hn⟩, hb.grown hg hB (fun k hk => by obtain rfl := Option.some.inj hk; exact hBp)⟩
  · have := heap_setCell_same w1 p 1 _ _ v' hst
    simpa using this
  · rw [heap_setCell_other w1 ⟨p, 1, none⟩ q _ (fun e => hpq e.symm)]; exact hcnt

theorem HU.next {B : Nat} {w : World} {p q : Nat} {v : Value} {n : Nat} {nx k : Int} (h : HU B w p q v n nx k) (m : Int) :
    HU B (w.setCell ⟨p, 2, none⟩ (.int .i64 m)) p q v n m k ∧ Below B w (w.setCell ⟨p, 2, none⟩ (.int .i64 m)) := by
  have hg : w.grownBy (w.setCell ⟨p, 2, none⟩ (.int .i64 m)) (some p) := ⟨rfl, rfl, rfl, by simp, fun k _ hk => heap_setCell_other w ⟨p, 2, none⟩ k _ (fun e => hk (by rw [e]))⟩
  obtain ⟨xs, hl, hr⟩ := h.row
  refine ⟨⟨?_, ⟨xs, hl, hr.kept hg (.inr h.apart)⟩, ?_, h.hBp, h.hBq, h.small⟩, (Below.refl B w).grown hg (Nat.le_trans h.hBp (Nat.le_of_lt h.lt)) (fun k hk => by obtain rfl := Option.some.inj hk; exact h.hBp)⟩
  · have := heap_setCell_same w p 2 _ _ (.int .i64 m) h.st
    simpa using this
  · rw [heap_setCell_other w ⟨p, 2, none⟩ q _ (fun e => h.pq e.symm)]; exact h.cnt

/-- Behind the append: what the block of the struct and of the counter hold. -/
theorem HU.keep {B : Nat} {w a w1 : World} {p q : Nat} {v : Value} {n : Nat} {nx k : Int} (h : HU B w p q v n nx k) (hb : Below w.heap.size w a) (hg : a.grownBy w1 v.ownBlock) :
    w1.heap[p]? = some (.cells #[cntF q, v, .int .i64 nx] 71 (0, 0)) ∧ w1.heap[q]? = some (.cells #[.int .i64 k] 3 (0, 0)) ∧ Below B w w1 ∧ B ≤ w1.heap.size := by
  have ha := h.below hb
  have hB : B ≤ w.heap.size := Nat.le_trans h.hBp (Nat.le_of_lt h.lt)
  have hBa : Below B w a := hb.mono hB
  refine ⟨by rw [hg.block p ha.lt (Ne.symm ha.apart)]; exact ha.st, by rw [hg.block q ha.ltq (Ne.symm ha.apartq)]; exact ha.cnt, hBa.grown hg (Nat.le_trans hB hb.size) (fun g hg' => (h.own g hg').1), Nat.le_trans hB (Nat.le_trans hb.size hg.size)⟩

def PushUMid (B : Nat) (w : World) (p q n : Nat) (nx k : Int) (w' : World) : Prop := ∃ v', HU B w' p q v' (n + 1) nx k ∧ Below B w w'

def PushUEnd (B : Nat) (w : World) (p q : Nat) (n : Nat) (nx k : Int) (e : Ending) (w' : World) : Prop :=
  e = .returned (.tuple #[]) ∧ ∃ v' k', k ≤ k' ∧ k' ≤ k + 2 * (dep n : Int) ∧ HU B w' p q v' (n + 1) (nx + 1) k' ∧ Below B w w'

set_option maxHeartbeats 4000000 in
set_option maxRecDepth 1000000 in
theorem push_u (B : Nat) (w : World) (p q : Nat) (v : Value) (n : Nat) (nx k x : Int) (hH : HU B w p q v n nx k) (hk : 0 ≤ k) (hk2 : k ≤ 1000) (hn : n + 1 ≤ 1000) (hn0 : 0 ≤ nx) (hn1 : nx ≤ 1000000) :
    Calls Try.prog 20 #[.pointer (some ⟨p, 0, none⟩), .int .u16 x] w (PushUEnd B w p q n nx k) := by
  obtain ⟨j0, hj0, hz0, hz1, hz2⟩ := info_parts Try.info73
  obtain ⟨c0, c1, c2, cf⟩ := hH.cells
  have hlt := hH.lt
  obtain ⟨xs, hxl, hxr⟩ := hH.row
  have HH := Lib.hid hH
  have hrow := Lib.hid hxr
  have HXl := Lib.hid hxl
  have hBw : B ≤ w.heap.size := Nat.le_trans hH.hBp (Nat.le_of_lt hH.lt)
  have hwx : IntKind.i64.wrap (nx + 1) = nx + 1 := IntWalk.i64_in _ (by omega)
  clear hH hxl hxr
  go_enter Try.func20, Try.ntmps20
  go_upto_region 1 with fail
  go_cut [18] (fun _ w' => PushUMid B w p q n nx k w')
  case first =>
    go_region_law
      ((refine step_append_lies _ (by rfl) _ _ _ (by rfl) B 73 j0 _ 2 16 Try.underlying69 hj0 hz0 hz1 hz2 rfl (by omega) v n (flatU xs) (by rfl) ((World.ownsRow.alloc hrow.out _).drew) ⟨w.heap.size, 0, none⟩ 1 1 [.int .u16 x, .int .i64 nx] (by rfl) (by rfl) (World.news_of_block (cs := #[.int .u16 x, .int .i64 nx]) (t := 73) (fr := (0, 0)) (one_alloc w _).2) (by simp [Value.oneCell']) (by omega) (by unfold maxLen; omega) (by omega) (by have := (one_alloc w (.cells #[.int .u16 x, .int .i64 nx] 73)).1.size; omega) _ rfl ?_; intro gg cap w1 hown1 hgrow hat hlt1; obtain ⟨q1, q2, q3, q4⟩ := HH.out.keep (one_alloc w _).1 hgrow; have q5 := cell_of_row w1 p 1 _ _ _ q1; have q6 : w1.frozen? ⟨p, 1, none⟩ = false := by simp [World.frozen?, q1]))
    all_goals
      go_wp2_with fail
      go_meet
      case rel =>
        have hgp : gg ≠ p := by
          rintro rfl
          rcases hat with h | h
          · exact HH.out.apart h
          · have := HH.out.lt; simp at h; omega
        obtain ⟨r1, r2⟩ := HU.store q1 q2 HH.out.hBp HH.out.hBq HH.out.pq (xs := xs ++ [(x, nx)]) (v' := .slice (some ⟨gg, 0, none⟩) (n + 1) cap) (n' := n + 1) ⟨by simp [HXl.out], by rw [flatU_append]; simpa [flatU] using hown1⟩ (by simp [Value.ownBlock, hgp]) (by omega) q3 q4
        exact ⟨_, r1, r2⟩
  case rest =>
    obtain ⟨v', hH', hb'⟩ := hcut
    obtain ⟨ao, cap, e⟩ := hH'.slice
    subst e
    obtain ⟨d0, d1, d2, df⟩ := hH'.cells
    obtain ⟨hHn, hbn⟩ := hH'.next (nx + 1)
    have HHn := Lib.hid hHn
    have HBn := Lib.hid (hb'.trans hbn)
    have hm1 : (n : Int) + 1 ≤ 1000 := by omega
    clear hHn hbn hb' hH' HH hrow
    go_wp2_with fail
    refine (up_u B _ p q _ (n + 1) (nx + 1) k n HHn.out hk hk2 (by omega) (by omega)).mono ?_
    rintro e w2 ⟨rfl, k', h1, h2, hH2, hb2⟩
    have HH2 := Lib.hid hH2
    have HB2 := Lib.hid hb2
    clear hH2 hb2
    go_wp2_with fail
    go_end0
    exact ⟨rfl, _, k', h1, h2, HH2.out, HBn.out.trans HB2.out⟩

def PopUEnd (B : Nat) (w : World) (p q m : Nat) (nx k : Int) (e : Ending) (w' : World) : Prop :=
  ∃ a : Int, e = .returned (.tuple #[.int .u16 a, .bool true]) ∧ ∃ (v' : Value) (k' : Int) (r : Nat), k ≤ k' ∧ k' ≤ k + 4 * (r : Int) ∧ (r = 0 ∨ 2 ^ r ≤ m) ∧ HU B w' p q v' m nx k' ∧ Below B w w'

theorem popu_shrink {B : Nat} {w : World} {p q g m cap : Nat} {nx k : Int} (hH : HU B w p q (.slice (some ⟨g, 0, none⟩) (m + 1) cap) (m + 1) nx k) :
    HU B (((w.setCell ⟨g, m * 2, none⟩ (.int .u16 0)).setCell ⟨g, m * 2 + 1, none⟩ (.int .i64 0)).setCell ⟨p, 1, none⟩ (.slice (some ⟨g, 0, none⟩) m cap)) p q (.slice (some ⟨g, 0, none⟩) m cap) m nx k ∧
    Below B w (((w.setCell ⟨g, m * 2, none⟩ (.int .u16 0)).setCell ⟨g, m * 2 + 1, none⟩ (.int .i64 0)).setCell ⟨p, 1, none⟩ (.slice (some ⟨g, 0, none⟩) m cap)) := by
  obtain ⟨xs, hr⟩ := hH.row
  obtain ⟨r1, g1⟩ := hr.set m (by omega) (0, 0)
  obtain ⟨h1, h2⟩ := hH.rows g1 r1
  simp only at r1 g1 h1 h2
  generalize ((w.setCell ⟨g, m * 2, none⟩ (.int .u16 0)).setCell ⟨g, m * 2 + 1, none⟩ (.int .i64 0)) = a at *
  have hgp : g ≠ p := fun e => hH.apart (by simp [Value.ownBlock, e])
  refine HU.store h1.st h1.cnt hH.hBp hH.hBq hH.pq (xs := xs.take m) ⟨by rw [List.length_take, hr.1]; omega, ?_⟩ (by simp [Value.ownBlock, hgp]) (by have := hH.small; omega) h2 (Nat.le_trans h1.hBp (Nat.le_of_lt h1.lt))
  rcases r1.2.2 with ⟨h1, _⟩ | ⟨g', cap', cur, h1, hb, hg, hnc, hcm, hcs, htake⟩
  · simp at h1
  · simp only [Value.slice.injEq, Option.some.injEq, Addr.mk.injEq, and_true] at h1
    obtain ⟨rfl, _, rfl⟩ := h1
    refine ⟨by rw [flatU_len, List.length_take, hr.1]; omega, .inr ⟨g, cap, cur, rfl, hb, hg, by omega, hcm, hcs, ?_⟩⟩
    have e1 : (cur.toList.take ((m + 1) * 2)).take (m * 2) = cur.toList.take (m * 2) := by rw [List.take_take]; congr 1; omega
    rw [← e1, htake, flatU_take]
    congr 1
    rw [List.take_set_of_le (Nat.le_refl _)]

set_option maxHeartbeats 4000000 in
set_option maxRecDepth 1000000 in
theorem pop_u (B : Nat) (w : World) (p q m : Nat) (v : Value) (nx k : Int) (hH : HU B w p q v (m + 1) nx k) (hk : 0 ≤ k) (hk2 : k ≤ 1000) (hn : m + 1 ≤ 1000) :
    Calls Try.prog 22 #[.pointer (some ⟨p, 0, none⟩)] w (PopUEnd B w p q m nx k) := by
  obtain ⟨g, cap, rfl, hg, _, hcap, hcm⟩ := hH.form (by omega)
  obtain ⟨c0, c1, c2, cf⟩ := hH.cells
  obtain ⟨xs, hr⟩ := hH.row
  obtain ⟨i0, i1⟩ := hr.item 0 (by omega)
  obtain ⟨l0, l1⟩ := hr.item m (by omega)
  have fz := hr.free
  have hlt := hH.lt
  have hgp : ¬ g = p := fun e => hH.apart (by simp [Value.ownBlock, e])
  have hm1 : (m : Int) ≤ 1000000 := by omega
  have fm : ((m : Int) + 1 == 0) = false := beq_eq_false_iff_ne.2 (by omega)
  have fm1 : (0 : Int) < (m : Int) + 1 := by omega
  simp only [Nat.zero_mul, Nat.zero_add] at i0 i1
  obtain ⟨a, ha⟩ : ∃ a, (xs[0]'(by rw [hr.1]; omega)).1 = a := ⟨_, rfl⟩
  obtain ⟨d, hd⟩ : ∃ a, (xs[0]'(by rw [hr.1]; omega)).2 = a := ⟨_, rfl⟩
  obtain ⟨b, hb⟩ : ∃ a, (xs[m]'(by rw [hr.1]; omega)).1 = a := ⟨_, rfl⟩
  obtain ⟨c, hc⟩ : ∃ a, (xs[m]'(by rw [hr.1]; omega)).2 = a := ⟨_, rfl⟩
  rw [ha] at i0
  rw [hd] at i1
  rw [hb] at l0
  rw [hc] at l1
  have hset := hr.set 0 (by omega) (b, c)
  simp only [Nat.zero_mul, Nat.zero_add] at hset
  have HS := Lib.hid hset
  have HH := Lib.hid hH
  clear hH ha hd hb hc hset hr
  go_enter Try.func22, Try.ntmps22
  go_upto_region 6 with fail
  go_cut [42] (fun _ w' => HU B w' p q (.slice (some ⟨g, 0, none⟩) (m + 1) cap) (m + 1) nx k ∧ Below B w w')
  case first =>
    go_region
    all_goals
      go_wp2_with fail
      go_meet
      case rel =>
        obtain ⟨h1, h2⟩ := HS.out
        exact HH.out.rows (grown_drew h2) (ys := xs.set 0 (b, c)) h1
  case rest =>
    obtain ⟨hHc, hbc⟩ := hcut
    clear c0 c1 c2 cf i0 i1 l0 l1 fz HS HH
    obtain ⟨c0, c1, c2, cf⟩ := hHc.cells
    obtain ⟨ys, hr⟩ := hHc.row
    obtain ⟨l0, l1⟩ := hr.item m (by omega)
    obtain ⟨b2, hb2⟩ : ∃ a, (ys[m]'(by rw [hr.1]; omega)).1 = a := ⟨_, rfl⟩
    obtain ⟨d2, hd2⟩ : ∃ a, (ys[m]'(by rw [hr.1]; omega)).2 = a := ⟨_, rfl⟩
    rw [hb2] at l0
    rw [hd2] at l1
    clear hb2 hd2
    have fz := hr.free
    obtain ⟨hHs, hSs⟩ := popu_shrink hHc
    have HHs := Lib.hid hHs
    have HBs := Lib.hid (hbc.trans hSs)
    have hmc : m ≤ cap := by omega
    clear hHs hSs hHc hbc hr
    go_wp2_with fail
    refine (down_u B _ p q _ m cap nx k HHs.out hk hk2 (by omega)).mono ?_
    rintro e w3 ⟨rfl, k', r, h1, h2, h3, hH3, hb3⟩
    have HH3 := Lib.hid hH3
    have HB3 := Lib.hid (HBs.out.trans hb3)
    clear hH3 hb3 c0 c1 c2 cf l0 l1 fz
    go_wp2_with fail
    refine bodyPost_ret (v := .tuple #[.int .u16 a, .bool true]) (by simp [results, Try.results22, go_sem]) rfl ?_
    go_light
    exact ⟨a, rfl, _, k', r, h1, h2, h3, HH3.out, HB3.out⟩
end Go.Proofs.Ytjdkaagkaambkaa
