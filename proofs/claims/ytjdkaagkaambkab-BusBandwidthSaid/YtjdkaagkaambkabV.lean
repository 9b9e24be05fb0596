/- The reference's Owner, fits and Start. -/
import Derived.Test.YtjdkaagkaambkabS
namespace Go.Proofs.Ytjdkaagkaambkab
open Go.RowKit Go.Proofs

def rown (c : Cfg) (y : Int) : Int := y / c.s % c.n

set_option maxHeartbeats 2000000 in
set_option maxRecDepth 1000000 in
theorem rown_any (c : Cfg) (y : Int) (w : World) (hv : vld c = true) (y0 : 0 ≤ y) (y1 : y ≤ 2000000000000) : Calls Try.prog 23 #[cfgV c, .int .i64 y] w (IntEnd w (rown c y)) := by
  obtain ⟨n1, n4, t1, ts, s6⟩ := vld_n hv
  obtain ⟨d1, d2, d3, d4⟩ := div_ok y0 y1 (show 1 ≤ c.s by omega)
  have m1 : (y / c.s).tmod c.n = y / c.s % c.n := Int.tmod_eq_emod_of_nonneg d2
  have m2 := Int.emod_nonneg (y / c.s) (show c.n ≠ 0 by omega)
  have m3 := Int.emod_lt_of_pos (y / c.s) (show 0 < c.n by omega)
  have nz : ¬ c.n = 0 := by omega
  have sz : ¬ c.s = 0 := by omega
  have m4 : IntKind.i64.wrap (y / c.s % c.n) = y / c.s % c.n := IntWalk.i64_in _ (by omega)
  clear hv
  unfold rown
  generalize y / c.s = q at *
  generalize q % c.n = r at *
  go_enter Try.func23, Try.ntmps23
  have HB0 : Hid (Below w.heap.size w (w.alloc (.cells (cfgA c) 27))) := Lib.hid ((Below.refl _ _).alloc (Nat.le_refl _) _)
  have hx : (w.alloc (.cells (cfgA c) 27)).heap[w.heap.size]? = some (.cells (cfgA c) 27 (0, 0)) := heap_alloc_new w _
  have c0 : (w.alloc (.cells (cfgA c) 27)).cell? ⟨w.heap.size, 0, none⟩ = some (.int .i64 c.n) := cell_of_row _ _ 0 _ _ _ hx
  have c1 : (w.alloc (.cells (cfgA c) 27)).cell? ⟨w.heap.size, 1, none⟩ = some (.int .i64 c.s) := cell_of_row _ _ 1 _ _ _ hx
  have c2 : (w.alloc (.cells (cfgA c) 27)).cell? ⟨w.heap.size, 2, none⟩ = some (.int .i64 c.t) := cell_of_row _ _ 2 _ _ _ hx
  have c3 : (w.alloc (.cells (cfgA c) 27)).cell? ⟨w.heap.size, 3, none⟩ = some (.int .i64 c.r0) := cell_of_row _ _ 3 _ _ _ hx
  have c4 : (w.alloc (.cells (cfgA c) 27)).cell? ⟨w.heap.size, 4, none⟩ = some (.int .i64 c.r1) := cell_of_row _ _ 4 _ _ _ hx
  have c5 : (w.alloc (.cells (cfgA c) 27)).cell? ⟨w.heap.size, 5, none⟩ = some (.int .i64 c.r2) := cell_of_row _ _ 5 _ _ _ hx
  have c6 : (w.alloc (.cells (cfgA c) 27)).cell? ⟨w.heap.size, 6, none⟩ = some (.int .i64 c.r3) := cell_of_row _ _ 6 _ _ _ hx
  have c7 : (w.alloc (.cells (cfgA c) 27)).cell? ⟨w.heap.size, 7, none⟩ = some (.int .i64 c.r4) := cell_of_row _ _ 7 _ _ _ hx
  have c8 : (w.alloc (.cells (cfgA c) 27)).cell? ⟨w.heap.size, 8, none⟩ = some (.int .i64 c.r5) := cell_of_row _ _ 8 _ _ _ hx
  have c9 : (w.alloc (.cells (cfgA c) 27)).cell? ⟨w.heap.size, 9, none⟩ = some (.int .i64 c.r6) := cell_of_row _ _ 9 _ _ _ hx
  have c10 : (w.alloc (.cells (cfgA c) 27)).cell? ⟨w.heap.size, 10, none⟩ = some (.int .i64 c.r7) := cell_of_row _ _ 10 _ _ _ hx
  have c11 : (w.alloc (.cells (cfgA c) 27)).cell? ⟨w.heap.size, 11, none⟩ = some (.int .i64 c.r8) := cell_of_row _ _ 11 _ _ _ hx
  have c12 : (w.alloc (.cells (cfgA c) 27)).cell? ⟨w.heap.size, 12, none⟩ = some (.int .i64 c.r9) := cell_of_row _ _ 12 _ _ _ hx
  have c13 : (w.alloc (.cells (cfgA c) 27)).cell? ⟨w.heap.size, 13, none⟩ = some (.int .i64 c.ra) := cell_of_row _ _ 13 _ _ _ hx
  have c14 : (w.alloc (.cells (cfgA c) 27)).cell? ⟨w.heap.size, 14, none⟩ = some (.int .i64 c.rb) := cell_of_row _ _ 14 _ _ _ hx
  clear hx
  go_wp2_with fail
  have X0 := Ext.cell c0
  have X1 := Ext.cell c1
  have X2 := Ext.cell c2
  have X3 := Ext.cell c3
  have X4 := Ext.cell c4
  have X5 := Ext.cell c5
  have X6 := Ext.cell c6
  have X7 := Ext.cell c7
  have X8 := Ext.cell c8
  have X9 := Ext.cell c9
  have X10 := Ext.cell c10
  have X11 := Ext.cell c11
  have X12 := Ext.cell c12
  have X13 := Ext.cell c13
  have X14 := Ext.cell c14
  clear c0 c1 c2 c3 c4 c5 c6 c7 c8 c9 c10 c11 c12 c13 c14
  refine wq_region (by kernel_rfl) (by kernel_rfl) ?_
  repeat (refine Wq.step (fun K hK => ?_); go_simp; first | (refine hK _ ?_; clear hK K) | (refine ⟨_, fun _ => rfl, hK _ ?_⟩; clear hK K))
  refine Wq.nil ?_
  rintro _ ⟨u, rfl⟩
  go_wp2_with fail
  go_ret
  go_light
  exact ⟨rfl, HB0.out.trans (u.2.mono HB0.out.size)⟩

theorem rown_v (c : Cfg) (y z : Int) (w : World) (hv : vld c = true) (y0 : 0 ≤ y) (y1 : y ≤ 2000000000000) (h : rown c y = z) : Calls Try.prog 23 #[cfgV c, .int .i64 y] w fun e w' => e = .returned (.int .i64 z) ∧ Below w.heap.size w w' := by
  rw [← h]; exact rown_any c y w hv y0 y1

theorem good_iff (c : Cfg) (core y : Int) (hv : vld c = true) : canGo c core y ↔ ∀ k : Nat, (k : Int) < c.t → rown c (y + k) = core ∧ (y + k) / c.s = y / c.s := by
  obtain ⟨n1, n4, t1, ts, s6⟩ := vld_n hv
  constructor
  · intro h k hk
    have e := in_slot hv h (show y ≤ y + (k : Int) by omega) (by omega)
    exact ⟨by rw [rown, e]; exact h.1, e⟩
  · intro h
    refine ⟨?_, ?_⟩
    · have := (h 0 (by omega)).1
      simpa [rown] using this
    · have e := (h (c.t - 1).toNat (by omega)).2
      rw [Int.toNat_of_nonneg (by omega)] at e
      have a := Int.emod_add_mul_ediv y c.s
      have b := Int.emod_add_mul_ediv (y + (c.t - 1)) c.s
      have b2 := Int.emod_lt_of_pos (y + (c.t - 1)) (show 0 < c.s by omega)
      rw [e] at b
      omega

instance canGo_dec (c : Cfg) (core y : Int) : Decidable (canGo c core y) := by unfold canGo; infer_instance
/-- What the loop of fits keeps. -/
def FitRel (w : World) (c : Cfg) (core y : Int) (i : Nat) (wr : World) : Prop :=
  wr.heap[w.heap.size]? = some (.cells (cfgA c) 27 (0, 0)) ∧ Below w.heap.size w wr ∧ ∀ k : Nat, k < i → rown c (y + k) = core ∧ (y + k) / c.s = y / c.s
def BoolEnd (w : World) (b : Bool) (e : Ending) (w' : World) : Prop := e = .returned (.bool b) ∧ Below w.heap.size w w'

set_option maxHeartbeats 2000000 in
set_option maxRecDepth 1000000 in
theorem fits_any (c : Cfg) (core y : Int) (w : World) (hv : vld c = true) (y0 : 0 ≤ y) (y1 : y ≤ 1900000000000) : Calls Try.prog 27 #[cfgV c, .int .i64 core, .int .i64 y] w (BoolEnd w (decide (canGo c core y))) := by
  obtain ⟨n1, n4, t1, ts, s6⟩ := vld_n hv
  have HV := Lib.hid hv
  obtain ⟨d1, d2, d3, d4⟩ := div_ok y0 (show y ≤ 2000000000000 by omega) (show 1 ≤ c.s by omega)
  have sz : ¬ c.s = 0 := by omega
  obtain ⟨q, hq⟩ : ∃ q, y / c.s = q := ⟨_, rfl⟩
  have HQ := Lib.hid hq
  rw [hq] at d1 d2 d3 d4
  clear hv hq
  go_enter Try.func27, Try.ntmps27
  go_wp2_with fail
  go_loopg [7] c.t.toNat (fun g jv wr => ∃ (i : Nat) (wx : World), wx = wr ∧ jv = .int .i64 i ∧ (i : Int) ≤ c.t ∧ c.t ≤ g + i ∧ FitRel w c core y i wx)
  case atStart => exact ⟨0, _, rfl, rfl, by omega, by omega, heap_alloc_new w _, (Below.refl _ _).alloc (Nat.le_refl _) _, fun k h => absurd h (Nat.not_lt_zero _)⟩
  case round =>
    obtain ⟨i, wr, rfl, rfl, hi, hg, hx, hb, hall⟩ := hrel
    have c0 : wr.cell? ⟨w.heap.size, 0, none⟩ = some (.int .i64 c.n) := cell_of_row _ _ 0 _ _ _ hx
    have c1 : wr.cell? ⟨w.heap.size, 1, none⟩ = some (.int .i64 c.s) := cell_of_row _ _ 1 _ _ _ hx
    have c2 : wr.cell? ⟨w.heap.size, 2, none⟩ = some (.int .i64 c.t) := cell_of_row _ _ 2 _ _ _ hx
    have c3 : wr.cell? ⟨w.heap.size, 3, none⟩ = some (.int .i64 c.r0) := cell_of_row _ _ 3 _ _ _ hx
    have c4 : wr.cell? ⟨w.heap.size, 4, none⟩ = some (.int .i64 c.r1) := cell_of_row _ _ 4 _ _ _ hx
    have c5 : wr.cell? ⟨w.heap.size, 5, none⟩ = some (.int .i64 c.r2) := cell_of_row _ _ 5 _ _ _ hx
    have c6 : wr.cell? ⟨w.heap.size, 6, none⟩ = some (.int .i64 c.r3) := cell_of_row _ _ 6 _ _ _ hx
    have c7 : wr.cell? ⟨w.heap.size, 7, none⟩ = some (.int .i64 c.r4) := cell_of_row _ _ 7 _ _ _ hx
    have c8 : wr.cell? ⟨w.heap.size, 8, none⟩ = some (.int .i64 c.r5) := cell_of_row _ _ 8 _ _ _ hx
    have c9 : wr.cell? ⟨w.heap.size, 9, none⟩ = some (.int .i64 c.r6) := cell_of_row _ _ 9 _ _ _ hx
    have c10 : wr.cell? ⟨w.heap.size, 10, none⟩ = some (.int .i64 c.r7) := cell_of_row _ _ 10 _ _ _ hx
    have c11 : wr.cell? ⟨w.heap.size, 11, none⟩ = some (.int .i64 c.r8) := cell_of_row _ _ 11 _ _ _ hx
    have c12 : wr.cell? ⟨w.heap.size, 12, none⟩ = some (.int .i64 c.r9) := cell_of_row _ _ 12 _ _ _ hx
    have c13 : wr.cell? ⟨w.heap.size, 13, none⟩ = some (.int .i64 c.ra) := cell_of_row _ _ 13 _ _ _ hx
    have c14 : wr.cell? ⟨w.heap.size, 14, none⟩ = some (.int .i64 c.rb) := cell_of_row _ _ 14 _ _ _ hx
    have HXR := Lib.hid hx
    have HBR := Lib.hid hb
    have HAll := Lib.hid hall
    clear hx hb hall
    by_cases hlt : (i : Int) < c.t
    · have hwi : IntKind.i64.wrap ((i : Int) + 1) = (i : Int) + 1 := IntWalk.i64_in _ (by omega)
      have hwy : IntKind.i64.wrap (y + (i : Int)) = y + (i : Int) := IntWalk.i64_in _ (by omega)
      obtain ⟨e1, e2, e3, e4⟩ := div_ok (show 0 ≤ y + (i : Int) by omega) (show y + (i : Int) ≤ 2000000000000 by omega) (show 1 ≤ c.s by omega)
      obtain ⟨o, ho⟩ : ∃ o, rown c (y + i) = o := ⟨_, rfl⟩
      have HO := Lib.hid ho
      obtain ⟨r, hr⟩ : ∃ r, (y + (i : Int)) / c.s = r := ⟨_, rfl⟩
      have HR := Lib.hid hr
      rw [hr] at e1 e2 e3 e4
      clear ho hr
      by_cases g1 : o = core
      · have b1 : (o != core) = false := by simpa using g1
        by_cases g2 : r = q
        · have b2 : (r != q) = false := by simpa using g2
          have HG : Hid (∀ k : Nat, k < i + 1 → rown c (y + k) = core ∧ (y + k) / c.s = y / c.s) := Lib.hid fun k hk => by
            by_cases hki : k = i
            · subst hki; exact ⟨by rw [HO.out, g1], by rw [HR.out, HQ.out, g2]⟩
            · exact HAll.out k (by omega)
          clear g1 g2
          go_wp2_with fail
          have X0 := Ext.cell c0
          have X1 := Ext.cell c1
          have X2 := Ext.cell c2
          have X3 := Ext.cell c3
          have X4 := Ext.cell c4
          have X5 := Ext.cell c5
          have X6 := Ext.cell c6
          have X7 := Ext.cell c7
          have X8 := Ext.cell c8
          have X9 := Ext.cell c9
          have X10 := Ext.cell c10
          have X11 := Ext.cell c11
          have X12 := Ext.cell c12
          have X13 := Ext.cell c13
          have X14 := Ext.cell c14
          clear c0 c1 c2 c3 c4 c5 c6 c7 c8 c9 c10 c11 c12 c13 c14
          refine wq_region (by kernel_rfl) (by kernel_rfl) ?_
          repeat (refine Wq.step (fun K hK => ?_); go_simp; first | (refine hK _ ?_; clear hK K) | (refine ⟨_, fun _ => rfl, hK _ ?_⟩; clear hK K))
          refine Wq.step (fun K hK => ?_)
          go_simp
          apply Exists.intro
          refine ⟨fun _ => ?_, hK _ ?_⟩
          · exact Ext.call _ (rown_v c (y + (i : Int)) o _ HV.out (by omega) (by omega) HO.out)
          clear hK K
          repeat (refine Wq.step (fun K hK => ?_); go_simp; first | (refine hK _ ?_; clear hK K) | (refine ⟨_, fun _ => rfl, hK _ ?_⟩; clear hK K))
          refine Wq.nil ?_
          rintro _ ⟨u, rfl⟩
          have HRel := Lib.hid (show FitRel w c core y (i + 1) u.1 from ⟨by rw [u.2.block _ (Array.getElem?_eq_some_iff.1 HXR.out).1]; exact HXR.out, HBR.out.trans (u.2.mono HBR.out.size), HG.out⟩)
          go_wp2_with fail
          go_roundg (c.t.toNat - (i + 1))
          case measure => go_light; omega
          case rel =>
            go_light
            exact ⟨i + 1, _, rfl, by go_num, by omega, by omega, HRel.out⟩
        · have b2 : (r != q) = true := by simpa using g2
          have HE : Hid (decide (canGo c core y) = false) := Lib.hid (decide_eq_false fun h => g2 (by rw [← HR.out, ← HQ.out]; exact ((good_iff c core y HV.out).1 h i hlt).2))
          clear g1 g2
          go_wp2_with fail
          have X0 := Ext.cell c0
          have X1 := Ext.cell c1
          have X2 := Ext.cell c2
          have X3 := Ext.cell c3
          have X4 := Ext.cell c4
          have X5 := Ext.cell c5
          have X6 := Ext.cell c6
          have X7 := Ext.cell c7
          have X8 := Ext.cell c8
          have X9 := Ext.cell c9
          have X10 := Ext.cell c10
          have X11 := Ext.cell c11
          have X12 := Ext.cell c12
          have X13 := Ext.cell c13
          have X14 := Ext.cell c14
          clear c0 c1 c2 c3 c4 c5 c6 c7 c8 c9 c10 c11 c12 c13 c14
          refine wq_region (by kernel_rfl) (by kernel_rfl) ?_
          repeat (refine Wq.step (fun K hK => ?_); go_simp; first | (refine hK _ ?_; clear hK K) | (refine ⟨_, fun _ => rfl, hK _ ?_⟩; clear hK K))
          refine Wq.step (fun K hK => ?_)
          go_simp
          apply Exists.intro
          refine ⟨fun _ => ?_, hK _ ?_⟩
          · exact Ext.call _ (rown_v c (y + (i : Int)) o _ HV.out (by omega) (by omega) HO.out)
          clear hK K
          repeat (refine Wq.step (fun K hK => ?_); go_simp; first | (refine hK _ ?_; clear hK K) | (refine ⟨_, fun _ => rfl, hK _ ?_⟩; clear hK K))
          refine Wq.nil ?_
          rintro _ ⟨u, rfl⟩
          go_wp2_with fail
          go_ret
          go_light
          exact ⟨by rw [HE.out] <;> rfl, HBR.out.trans (u.2.mono HBR.out.size)⟩
      · have b1 : (o != core) = true := by simpa using g1
        have HE : Hid (decide (canGo c core y) = false) := Lib.hid (decide_eq_false fun h => g1 (by rw [← HO.out]; exact ((good_iff c core y HV.out).1 h i hlt).1))
        clear g1
        go_wp2_with fail
        have X0 := Ext.cell c0
        have X1 := Ext.cell c1
        have X2 := Ext.cell c2
        have X3 := Ext.cell c3
        have X4 := Ext.cell c4
        have X5 := Ext.cell c5
        have X6 := Ext.cell c6
        have X7 := Ext.cell c7
        have X8 := Ext.cell c8
        have X9 := Ext.cell c9
        have X10 := Ext.cell c10
        have X11 := Ext.cell c11
        have X12 := Ext.cell c12
        have X13 := Ext.cell c13
        have X14 := Ext.cell c14
        clear c0 c1 c2 c3 c4 c5 c6 c7 c8 c9 c10 c11 c12 c13 c14
        refine wq_region (by kernel_rfl) (by kernel_rfl) ?_
        repeat (refine Wq.step (fun K hK => ?_); go_simp; first | (refine hK _ ?_; clear hK K) | (refine ⟨_, fun _ => rfl, hK _ ?_⟩; clear hK K))
        refine Wq.step (fun K hK => ?_)
        go_simp
        apply Exists.intro
        refine ⟨fun _ => ?_, hK _ ?_⟩
        · exact Ext.call _ (rown_v c (y + (i : Int)) o _ HV.out (by omega) (by omega) HO.out)
        clear hK K
        repeat (refine Wq.step (fun K hK => ?_); go_simp; first | (refine hK _ ?_; clear hK K) | (refine ⟨_, fun _ => rfl, hK _ ?_⟩; clear hK K))
        refine Wq.nil ?_
        rintro _ ⟨u, rfl⟩
        go_wp2_with fail
        go_ret
        go_light
        exact ⟨by rw [HE.out] <;> rfl, HBR.out.trans (u.2.mono HBR.out.size)⟩
    · have HE : Hid (decide (canGo c core y) = true) := Lib.hid (decide_eq_true ((good_iff c core y HV.out).2 fun k hk => HAll.out k (by omega)))
      go_wp2_with fail
      go_ret
      go_light
      exact ⟨by rw [HE.out] <;> rfl, HBR.out⟩

set_option maxHeartbeats 2000000 in
set_option maxRecDepth 1000000 in
theorem rstart_any (c : Cfg) (core y : Int) (w : World) (hv : vld c = true) (h0 : 0 ≤ core) (h1 : core < c.n) (y0 : 0 ≤ y) (y1 : y ≤ 1099511627776) : Calls Try.prog 21 #[cfgV c, .int .i64 core, .int .i64 y] w (IntEnd w (strt0 c core y)) := by
  have HV := Lib.hid hv
  have sb := strt0_bounds c core y (use_ok hv h0 h1 y0 y1)
  have HC := Lib.hid (strt0_can c core y hv h0 h1)
  have HL : Hid (∀ z, y ≤ z → canGo c core z → strt0 c core y ≤ z) := Lib.hid fun z hz hc => strt0_least c core y z hv h0 h1 hz hc
  clear hv h0 h1
  generalize strt0 c core y = S at *
  go_enter Try.func21, Try.ntmps21
  go_wp2_with fail
  go_loopg [2] (S - y).toNat (fun g jv wr => ∃ (z : Int) (wx : World), wx = wr ∧ jv = .int .i64 z ∧ y ≤ z ∧ z ≤ S ∧ S - z ≤ g ∧ wx.heap[w.heap.size]? = some (.cells (cfgA c) 27 (0, 0)) ∧ Below w.heap.size w wx)
  case atStart => exact ⟨y, _, rfl, rfl, by omega, by omega, by omega, heap_alloc_new w _, (Below.refl _ _).alloc (Nat.le_refl _) _⟩
  case round =>
    obtain ⟨z, wr, rfl, rfl, hz, hzS, hg, hx, hb⟩ := hrel
    have c0 : wr.cell? ⟨w.heap.size, 0, none⟩ = some (.int .i64 c.n) := cell_of_row _ _ 0 _ _ _ hx
    have c1 : wr.cell? ⟨w.heap.size, 1, none⟩ = some (.int .i64 c.s) := cell_of_row _ _ 1 _ _ _ hx
    have c2 : wr.cell? ⟨w.heap.size, 2, none⟩ = some (.int .i64 c.t) := cell_of_row _ _ 2 _ _ _ hx
    have c3 : wr.cell? ⟨w.heap.size, 3, none⟩ = some (.int .i64 c.r0) := cell_of_row _ _ 3 _ _ _ hx
    have c4 : wr.cell? ⟨w.heap.size, 4, none⟩ = some (.int .i64 c.r1) := cell_of_row _ _ 4 _ _ _ hx
    have c5 : wr.cell? ⟨w.heap.size, 5, none⟩ = some (.int .i64 c.r2) := cell_of_row _ _ 5 _ _ _ hx
    have c6 : wr.cell? ⟨w.heap.size, 6, none⟩ = some (.int .i64 c.r3) := cell_of_row _ _ 6 _ _ _ hx
    have c7 : wr.cell? ⟨w.heap.size, 7, none⟩ = some (.int .i64 c.r4) := cell_of_row _ _ 7 _ _ _ hx
    have c8 : wr.cell? ⟨w.heap.size, 8, none⟩ = some (.int .i64 c.r5) := cell_of_row _ _ 8 _ _ _ hx
    have c9 : wr.cell? ⟨w.heap.size, 9, none⟩ = some (.int .i64 c.r6) := cell_of_row _ _ 9 _ _ _ hx
    have c10 : wr.cell? ⟨w.heap.size, 10, none⟩ = some (.int .i64 c.r7) := cell_of_row _ _ 10 _ _ _ hx
    have c11 : wr.cell? ⟨w.heap.size, 11, none⟩ = some (.int .i64 c.r8) := cell_of_row _ _ 11 _ _ _ hx
    have c12 : wr.cell? ⟨w.heap.size, 12, none⟩ = some (.int .i64 c.r9) := cell_of_row _ _ 12 _ _ _ hx
    have c13 : wr.cell? ⟨w.heap.size, 13, none⟩ = some (.int .i64 c.ra) := cell_of_row _ _ 13 _ _ _ hx
    have c14 : wr.cell? ⟨w.heap.size, 14, none⟩ = some (.int .i64 c.rb) := cell_of_row _ _ 14 _ _ _ hx
    have HXR := Lib.hid hx
    have HBR := Lib.hid hb
    clear hx hb
    have hwz : IntKind.i64.wrap (z + 1) = z + 1 := IntWalk.i64_in _ (by omega)
    go_wp2_with fail
    refine (fits_any c core z _ HV.out (by omega) (by omega)).mono ?_
    rintro e w2 ⟨rfl, hb⟩
    have HB2 := Lib.hid (HBR.out.trans (hb.mono HBR.out.size))
    have HX2 : Hid (w2.heap[w.heap.size]? = some (.cells (cfgA c) 27 (0, 0))) := Lib.hid (by rw [hb.block _ (World.block_lt_of_cell? _ _ c0)]; exact HXR.out)
    clear hb c0 c1 c2 c3 c4 c5 c6 c7 c8 c9 c10 c11 c12 c13 c14
    by_cases hcan : canGo c core z
    · have e : z = S := by have := HL.out z hz hcan; omega
      subst e
      rw [decide_eq_true hcan]
      clear hcan
      go_wp2_with fail
      go_ret
      go_light
      exact ⟨rfl, HB2.out⟩
    · have hne : z ≠ S := fun e => hcan (e ▸ HC.out)
      rw [decide_eq_false hcan]
      clear hcan
      go_wp2_with fail
      go_roundg ((S - (z + 1)).toNat)
      case measure => go_light; omega
      case rel =>
        go_light
        exact ⟨z + 1, _, rfl, rfl, by omega, by omega, by omega, HX2.out, HB2.out⟩
end Go.Proofs.Ytjdkaagkaambkab
