/- The bus: Done, MaxWait, MaxTransfer, each by a contract. -/
import Derived.Test.YtjdkaagkaambkabC
namespace Go.Proofs.Ytjdkaagkaambkab
open Go.RowKit Go.Proofs

def don (c : Cfg) (core cyc : Int) : Int := if use c core [cyc] = true then strt0 c core cyc + c.t else -1

theorem strt0_bounds (c : Cfg) (core cyc : Int) (h : use c core [cyc] = true) : cyc ≤ strt0 c core cyc ∧ strt0 c core cyc ≤ cyc + 4000000 := by
  obtain ⟨hv, hc0, hcn, hc⟩ := use_true h
  obtain ⟨n1, n4, t1, ts, s6⟩ := vld_n hv
  obtain ⟨c0, c1⟩ := hc cyc (by simp)
  unfold strt0
  split
  · omega
  · have hob := ownd_bounds c core (cyc / c.s + 1) n1
    have hqs : cyc / c.s * c.s ≤ cyc := Int.ediv_mul_le _ (by omega)
    have hq0 : 0 ≤ cyc / c.s := Int.ediv_nonneg c0 (by omega)
    have := strt_mul (n := c.n) hq0 (by omega) s6 hqs hob.1 hob.2 n4
    refine ⟨?_, this.2⟩
    have h2 : cyc < (cyc / c.s + 1) * c.s := Int.lt_ediv_add_one_mul_self _ (by omega)
    have h3 : (cyc / c.s + 1) * c.s ≤ ownd c core (cyc / c.s + 1) * c.s := Int.mul_le_mul_of_nonneg_right hob.1 (by omega)
    omega

set_option maxHeartbeats 2000000 in
set_option maxRecDepth 1000000 in
theorem done_any (c : Cfg) (core cyc : Int) (w : World) : Calls Try.prog 20 #[cfgV c, .int .i64 core, .int .i64 cyc] w (IntEnd w (don c core cyc)) := by
  obtain ⟨b, hu⟩ : ∃ b, use c core [cyc] = b := ⟨_, rfl⟩
  obtain ⟨z, hz⟩ : ∃ z, strt c core cyc = z := ⟨_, rfl⟩
  have HZ := Lib.hid hz
  have HU := Lib.hid hu
  clear hu hz
  go_enter Try.func20, Try.ntmps20
  go_wp2_with fail
  refine (start_any c core cyc _).mono ?_
  rintro e w1 ⟨rfl, hb1⟩
  rw [HZ.out]
  have hbx : w1.heap[w.heap.size]? = some (.cells (cfgA c) 27 (0, 0)) := by
    rw [hb1.block _ (by simp)]
    exact heap_alloc_new w _
  have HB := Lib.hid (((Below.refl _ _).alloc (Nat.le_refl _) _).trans (hb1.mono (by simp)))
  have x2 : w1.cell? ⟨w.heap.size, 2, none⟩ = some (.int .i64 c.t) := cell_of_row _ _ 2 _ _ _ hbx
  clear hb1 hbx
  cases b with
  | false =>
    have hz : z = -1 := by rw [← HZ.out, strt, if_neg (by rw [HU.out]; simp)]
    subst hz
    go_wp2_with fail
    go_ret
    go_light
    have : don c core cyc = -1 := by rw [don, if_neg (by rw [HU.out]; simp)]
    rw [IntEnd, this]
    exact ⟨rfl, HB.out⟩
  | true =>
    obtain ⟨hv, hc0, hcn, hc⟩ := use_true HU.out
    obtain ⟨n1, n4, t1, ts, s6⟩ := vld_n hv
    obtain ⟨c0, c1⟩ := hc cyc (by simp)
    have hzz : z = strt0 c core cyc := by rw [← HZ.out, strt, if_pos HU.out]
    have hbd := strt0_bounds c core cyc HU.out
    have HD : Hid (don c core cyc = z + c.t) := Lib.hid (by rw [don, if_pos HU.out, hzz])
    rw [← hzz] at hbd
    have z0 : ¬ z < 0 := by omega
    have hw : IntKind.i64.wrap (z + c.t) = z + c.t := IntWalk.i64_in _ (by omega)
    clear hv hc hzz
    go_wp2_with fail
    go_ret
    go_light
    rw [IntEnd, HD.out]
    exact ⟨rfl, HB.out⟩

def mwt (c : Cfg) : Int := if vld c = true then (c.n - 1) * c.s + c.t - 1 else -1
theorem mwt_bounds {n s : Int} (n1 : 1 ≤ n) (n4 : n ≤ 4) (s1 : 1 ≤ s) (s6 : s ≤ 1000000) : 0 ≤ (n - 1) * s ∧ (n - 1) * s ≤ 3000000 := by
  have h1 : (n - 1) * s ≤ 3 * s := Int.mul_le_mul_of_nonneg_right (by omega) (by omega)
  have h2 : 0 ≤ (n - 1) * s := Int.mul_nonneg (by omega) (by omega)
  omega

set_option maxHeartbeats 2000000 in
set_option maxRecDepth 1000000 in
theorem maxwait_any (c : Cfg) (w : World) : Calls Try.prog 19 #[cfgV c] w (IntEnd w (mwt c)) := by
  obtain ⟨b, hu⟩ : ∃ b, vld c = b := ⟨_, rfl⟩
  have HU := Lib.hid hu
  clear hu
  go_enter Try.func19, Try.ntmps19
  go_wp2_with fail
  refine (valid_any c _).mono ?_
  rintro e w1 ⟨rfl, hb1⟩
  rw [HU.out]
  have hbx : w1.heap[w.heap.size]? = some (.cells (cfgA c) 27 (0, 0)) := by
    rw [hb1.block _ (by simp)]
    exact heap_alloc_new w _
  have HB := Lib.hid (((Below.refl _ _).alloc (Nat.le_refl _) _).trans (hb1.mono (by simp)))
  have x0 : w1.cell? ⟨w.heap.size, 0, none⟩ = some (.int .i64 c.n) := cell_of_row _ _ 0 _ _ _ hbx
  have x1 : w1.cell? ⟨w.heap.size, 1, none⟩ = some (.int .i64 c.s) := cell_of_row _ _ 1 _ _ _ hbx
  have x2 : w1.cell? ⟨w.heap.size, 2, none⟩ = some (.int .i64 c.t) := cell_of_row _ _ 2 _ _ _ hbx
  clear hb1 hbx
  cases b with
  | false =>
    go_wp2_with fail
    go_ret
    go_light
    have : mwt c = -1 := by rw [mwt, if_neg (by rw [HU.out]; simp)]
    rw [IntEnd, this]
    exact ⟨rfl, HB.out⟩
  | true =>
    obtain ⟨n1, n4, t1, ts, s6⟩ := vld_n HU.out
    have HD : Hid (mwt c = (c.n - 1) * c.s + c.t - 1) := Lib.hid (by rw [mwt, if_pos HU.out])
    have hm := mwt_bounds n1 n4 (by omega) s6
    have hw1 : IntKind.i64.wrap (c.n - 1) = c.n - 1 := IntWalk.i64_in _ (by omega)
    have hw2 : IntKind.i64.wrap ((c.n - 1) * c.s) = (c.n - 1) * c.s := IntWalk.i64_in _ (by omega)
    have hw3 : IntKind.i64.wrap ((c.n - 1) * c.s + c.t) = (c.n - 1) * c.s + c.t := IntWalk.i64_in _ (by omega)
    have hw4 : IntKind.i64.wrap ((c.n - 1) * c.s + c.t - 1) = (c.n - 1) * c.s + c.t - 1 := IntWalk.i64_in _ (by omega)
    go_wp2_with fail
    go_ret
    go_light
    rw [IntEnd, HD.out]
    exact ⟨rfl, HB.out⟩
theorem maxwait_b (c : Cfg) (z : Int) (w : World) (h : mwt c = z) : Calls Try.prog 19 #[cfgV c] w fun e w' => e = .returned (.int .i64 z) ∧ Below w.heap.size w w' := by
  rw [← h]; exact maxwait_any c w

def mtr (c : Cfg) : Int := if vld c = true then (c.n - 1) * c.s + c.t - 1 + c.t else -1

set_option maxHeartbeats 2000000 in
set_option maxRecDepth 1000000 in
theorem maxtransfer_any (c : Cfg) (w : World) : Calls Try.prog 18 #[cfgV c] w (IntEnd w (mtr c)) := by
  obtain ⟨b, hu⟩ : ∃ b, vld c = b := ⟨_, rfl⟩
  have HU := Lib.hid hu
  clear hu
  go_enter Try.func18, Try.ntmps18
  go_wp2_with fail
  refine (valid_any c _).mono ?_
  rintro e w1 ⟨rfl, hb1⟩
  rw [HU.out]
  have hbx : w1.heap[w.heap.size]? = some (.cells (cfgA c) 27 (0, 0)) := by
    rw [hb1.block _ (by simp)]
    exact heap_alloc_new w _
  have HB := Lib.hid (((Below.refl _ _).alloc (Nat.le_refl _) _).trans (hb1.mono (by simp)))
  have X0 : ∀ u : Ext w1, u.1.cell? ⟨w.heap.size, 0, none⟩ = some (.int .i64 c.n) := Ext.cell (cell_of_row w1 _ 0 _ _ _ hbx)
  have X1 : ∀ u : Ext w1, u.1.cell? ⟨w.heap.size, 1, none⟩ = some (.int .i64 c.s) := Ext.cell (cell_of_row w1 _ 1 _ _ _ hbx)
  have X2 : ∀ u : Ext w1, u.1.cell? ⟨w.heap.size, 2, none⟩ = some (.int .i64 c.t) := Ext.cell (cell_of_row w1 _ 2 _ _ _ hbx)
  have X3 : ∀ u : Ext w1, u.1.cell? ⟨w.heap.size, 3, none⟩ = some (.int .i64 c.r0) := Ext.cell (cell_of_row w1 _ 3 _ _ _ hbx)
  have X4 : ∀ u : Ext w1, u.1.cell? ⟨w.heap.size, 4, none⟩ = some (.int .i64 c.r1) := Ext.cell (cell_of_row w1 _ 4 _ _ _ hbx)
  have X5 : ∀ u : Ext w1, u.1.cell? ⟨w.heap.size, 5, none⟩ = some (.int .i64 c.r2) := Ext.cell (cell_of_row w1 _ 5 _ _ _ hbx)
  have X6 : ∀ u : Ext w1, u.1.cell? ⟨w.heap.size, 6, none⟩ = some (.int .i64 c.r3) := Ext.cell (cell_of_row w1 _ 6 _ _ _ hbx)
  have X7 : ∀ u : Ext w1, u.1.cell? ⟨w.heap.size, 7, none⟩ = some (.int .i64 c.r4) := Ext.cell (cell_of_row w1 _ 7 _ _ _ hbx)
  have X8 : ∀ u : Ext w1, u.1.cell? ⟨w.heap.size, 8, none⟩ = some (.int .i64 c.r5) := Ext.cell (cell_of_row w1 _ 8 _ _ _ hbx)
  have X9 : ∀ u : Ext w1, u.1.cell? ⟨w.heap.size, 9, none⟩ = some (.int .i64 c.r6) := Ext.cell (cell_of_row w1 _ 9 _ _ _ hbx)
  have X10 : ∀ u : Ext w1, u.1.cell? ⟨w.heap.size, 10, none⟩ = some (.int .i64 c.r7) := Ext.cell (cell_of_row w1 _ 10 _ _ _ hbx)
  have X11 : ∀ u : Ext w1, u.1.cell? ⟨w.heap.size, 11, none⟩ = some (.int .i64 c.r8) := Ext.cell (cell_of_row w1 _ 11 _ _ _ hbx)
  have X12 : ∀ u : Ext w1, u.1.cell? ⟨w.heap.size, 12, none⟩ = some (.int .i64 c.r9) := Ext.cell (cell_of_row w1 _ 12 _ _ _ hbx)
  have X13 : ∀ u : Ext w1, u.1.cell? ⟨w.heap.size, 13, none⟩ = some (.int .i64 c.ra) := Ext.cell (cell_of_row w1 _ 13 _ _ _ hbx)
  have X14 : ∀ u : Ext w1, u.1.cell? ⟨w.heap.size, 14, none⟩ = some (.int .i64 c.rb) := Ext.cell (cell_of_row w1 _ 14 _ _ _ hbx)
  clear hb1 hbx
  cases b with
  | false =>
    go_wp2_with fail
    go_ret
    go_light
    have : mtr c = -1 := by rw [mtr, if_neg (by rw [HU.out]; simp)]
    rw [IntEnd, this]
    exact ⟨rfl, HB.out⟩
  | true =>
    obtain ⟨n1, n4, t1, ts, s6⟩ := vld_n HU.out
    obtain ⟨z, hz⟩ : ∃ z, (c.n - 1) * c.s + c.t - 1 = z := ⟨_, rfl⟩
    have HD : Hid (mtr c = z + c.t) := Lib.hid (by rw [mtr, if_pos HU.out, hz])
    have HM : Hid (mwt c = z) := Lib.hid (by rw [mwt, if_pos HU.out, hz])
    have hm := mwt_bounds n1 n4 (by omega) s6
    have hz1 : 0 ≤ z ∧ z ≤ 4000000 := by omega
    have hw1 : IntKind.i64.wrap (z + c.t) = z + c.t := IntWalk.i64_in _ (by omega)
    clear hz hm
    go_wp2_with fail
    refine wq_region (by kernel_rfl) (by kernel_rfl) ?_
    repeat (refine Wq.step (fun K hK => ?_); go_simp; first | (refine hK _ ?_; clear hK K) | (refine ⟨_, fun _ => rfl, hK _ ?_⟩; clear hK K) | (apply Exists.intro; refine ⟨fun _ => ?_, hK _ ?_⟩; (exact Ext.call _ (maxwait_b c z _ HM.out)); clear hK K))
    refine Wq.nil ?_
    rintro _ ⟨u, rfl⟩
    go_wp2_with fail
    go_ret
    go_light
    rw [IntEnd, HD.out]
    exact ⟨rfl, HB.out.trans (u.2.mono HB.out.size)⟩
end Go.Proofs.Ytjdkaagkaambkab
