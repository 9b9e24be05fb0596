/- BusStart: the walk. -/
import Derived.Test.YtjdkaagkaambkabV
namespace Go.Proofs.Ytjdkaagkaambkab
open Go.RowKit Go.Proofs

theorem valid_v (c : Cfg) (b : Bool) (w : World) (h : vld c = b) : Calls Try.prog 12 #[cfgV c] w fun e w' => e = .returned (.bool b) ∧ Below w.heap.size w w' := by
  rw [← h]; exact valid_any c w
theorem rvalid_v (c : Cfg) (b : Bool) (w : World) (h : vld c = b) : Calls Try.prog 15 #[cfgV c] w fun e w' => e = .returned (.bool b) ∧ Below w.heap.size w w' := by
  rw [← h]; exact rvalid_any c w

set_option maxHeartbeats 2000000 in
set_option maxRecDepth 1000000 in
theorem start_walk (c : Cfg) (core x : Int) (w : World) (x0 : 0 ≤ x) (x1 : x ≤ 4294967295) : Calls Try.prog 8 #[cfgV c, .int .i64 core, .int .u32 x] w (TrueEnd w) := by
  obtain ⟨b, hu⟩ : ∃ b, vld c = b := ⟨_, rfl⟩
  have HU := Lib.hid hu
  clear hu
  have q0 : (b != b) = false := by simp
  go_enter Try.func8, Try.ntmps8
  have hx : (w.alloc (.cells (cfgA c) 27)).heap[w.heap.size]? = some (.cells (cfgA c) 27 (0, 0)) := heap_alloc_new w _
  have HB0 := Lib.hid ((Below.refl w.heap.size w).alloc (Nat.le_refl _) (.cells (cfgA c) 27))
  have c0 : (w.alloc (.cells (cfgA c) 27)).cell? ⟨w.heap.size, 0, none⟩ = some (.int .i64 c.n) := cell_of_row _ _ 0 _ _ _ hx
  have c1 : (w.alloc (.cells (cfgA c) 27)).cell? ⟨w.heap.size, 1, none⟩ = some (.int .i64 c.s) := cell_of_row _ _ 1 _ _ _ hx
  have c2 : (w.alloc (.cells (cfgA c) 27)).cell? ⟨w.heap.size, 2, none⟩ = some (.int .i64 c.t) := cell_of_row _ _ 2 _ _ _ hx
  have c3 : (w.alloc (.cells (cfgA c) 27)).cell? ⟨w.heap.size, 3, none⟩ = some (.int .i64 c.r0) := cell_of_row _ _ 3 _ _ _ hx
  have c4 : (w.alloc (.cells (cfgA c) 27)).cell? ⟨w.heap.size, 4, none⟩ = some (.int .i64 c.r1) := cell_of_row _ _ 4 _ _ _ hx
  have c5 : (w.alloc (.cells (cfgA c) 27)).cell? ⟨w.heap.size, 5, none⟩ = some (.int .i64 c.r2) := cell_of_row _ _ 5 _ _ _ hx
  have c6 : (w.alloc (.cells (cfgA c) 27)).cell? ⟨w.heap.size, 6, none⟩ = some (.int .i64 c.r3) := cell_of_row _ _ 6 _ _ _ hx
  have c7 : (w.alloc (.cells (cfgA c) 27)).cell? ⟨w.heap.size, 7, none⟩ = some (.int .i64 c.r4) := cell_of_row _ _ 7 _ _ _ hx
  have c8 : (w.alloc (.cells (cfgA c) 27)).cell? ⟨w.heap.size, 8, none⟩ = some (.int .i64 c.r5) := cell_of_row _ _ 8 _ _ _ hx
  have c9 : (w.alloc (.cells (cfgA c) 27)).cell? ⟨w.heap.size, 9, none⟩ = some (.int .i64 c.r6) := cell_of_row _ _ 9 _ _ _ hx
  have c10 : (w.alloc (.cells (cfgA c) 27)).cell? ⟨w.heap.size, 10, none⟩ = some (.int .i64 c.r7) := cell_of_row _ _ 10 _ _ _ hx
  have c11 : (w.alloc (.cells (cfgA c) 27)).cell? ⟨w.heap.size, 11, none⟩ = some (.int .i64 c.r8) := cell_of_row _ _ 11 _ _ _ hx
  have c12 : (w.alloc (.cells (cfgA c) 27)).cell? ⟨w.heap.size, 12, none⟩ = some (.int .i64 c.r9) := cell_of_row _ _ 12 _ _ _ hx
  have c13 : (w.alloc (.cells (cfgA c) 27)).cell? ⟨w.heap.size, 13, none⟩ = some (.int .i64 c.ra) := cell_of_row _ _ 13 _ _ _ hx
  have c14 : (w.alloc (.cells (cfgA c) 27)).cell? ⟨w.heap.size, 14, none⟩ = some (.int .i64 c.rb) := cell_of_row _ _ 14 _ _ _ hx
  have HX0 := Lib.hid hx
  clear hx
  go_wp2_with fail
  have X0 := Ext.cell c0
  have X1 := Ext.cell c1
  have X2 := Ext.cell c2
  have X3 := Ext.cell c3
  have X4 := Ext.cell c4
  have X5 := Ext.cell c5
  have X6 := Ext.cell c6
  have X7 := Ext.cell c7
  have X8 := Ext.cell c8
  have X9 := Ext.cell c9
  have X10 := Ext.cell c10
  have X11 := Ext.cell c11
  have X12 := Ext.cell c12
  have X13 := Ext.cell c13
  have X14 := Ext.cell c14
  clear c0 c1 c2 c3 c4 c5 c6 c7 c8 c9 c10 c11 c12 c13 c14
  refine wq_region (by kernel_rfl) (by kernel_rfl) ?_
  repeat (refine Wq.step (fun K hK => ?_); go_simp; first | (refine hK _ ?_; clear hK K) | (refine ⟨_, fun _ => rfl, hK _ ?_⟩; clear hK K))
  refine Wq.step (fun K hK => ?_)
  go_simp
  apply Exists.intro
  refine ⟨fun _ => ?_, hK _ ?_⟩
  · exact Ext.call _ (awake_b _)
  clear hK K
  repeat (refine Wq.step (fun K hK => ?_); go_simp; first | (refine hK _ ?_; clear hK K) | (refine ⟨_, fun _ => rfl, hK _ ?_⟩; clear hK K))
  refine Wq.step (fun K hK => ?_)
  go_simp
  apply Exists.intro
  refine ⟨fun _ => ?_, hK _ ?_⟩
  · exact Ext.call _ (valid_v c b _ HU.out)
  clear hK K
  repeat (refine Wq.step (fun K hK => ?_); go_simp; first | (refine hK _ ?_; clear hK K) | (refine ⟨_, fun _ => rfl, hK _ ?_⟩; clear hK K))
  refine Wq.step (fun K hK => ?_)
  go_simp
  apply Exists.intro
  refine ⟨fun _ => ?_, hK _ ?_⟩
  · exact Ext.call _ (rvalid_v c b _ HU.out)
  clear hK K
  repeat (refine Wq.step (fun K hK => ?_); go_simp; first | (refine hK _ ?_; clear hK K) | (refine ⟨_, fun _ => rfl, hK _ ?_⟩; clear hK K))
  refine Wq.nil ?_
  rintro _ ⟨u, rfl⟩
  obtain ⟨w1, hb⟩ := u
  simp only []
  have hx : w1.heap[w.heap.size]? = some (.cells (cfgA c) 27 (0, 0)) := by
    rw [hb.block _ (World.block_lt_of_cell? _ _ (X0 ⟨(w.alloc (.cells (cfgA c) 27)), Below.refl _ _⟩))]
    exact HX0.out
  have HB1 := Lib.hid (HB0.out.trans (hb.mono HB0.out.size))
  clear hb X0 X1 X2 X3 X4 X5 X6 X7 X8 X9 X10 X11 X12 X13 X14
  have c0 : w1.cell? ⟨w.heap.size, 0, none⟩ = some (.int .i64 c.n) := cell_of_row _ _ 0 _ _ _ hx
  have c1 : w1.cell? ⟨w.heap.size, 1, none⟩ = some (.int .i64 c.s) := cell_of_row _ _ 1 _ _ _ hx
  have c2 : w1.cell? ⟨w.heap.size, 2, none⟩ = some (.int .i64 c.t) := cell_of_row _ _ 2 _ _ _ hx
  have c3 : w1.cell? ⟨w.heap.size, 3, none⟩ = some (.int .i64 c.r0) := cell_of_row _ _ 3 _ _ _ hx
  have c4 : w1.cell? ⟨w.heap.size, 4, none⟩ = some (.int .i64 c.r1) := cell_of_row _ _ 4 _ _ _ hx
  have c5 : w1.cell? ⟨w.heap.size, 5, none⟩ = some (.int .i64 c.r2) := cell_of_row _ _ 5 _ _ _ hx
  have c6 : w1.cell? ⟨w.heap.size, 6, none⟩ = some (.int .i64 c.r3) := cell_of_row _ _ 6 _ _ _ hx
  have c7 : w1.cell? ⟨w.heap.size, 7, none⟩ = some (.int .i64 c.r4) := cell_of_row _ _ 7 _ _ _ hx
  have c8 : w1.cell? ⟨w.heap.size, 8, none⟩ = some (.int .i64 c.r5) := cell_of_row _ _ 8 _ _ _ hx
  have c9 : w1.cell? ⟨w.heap.size, 9, none⟩ = some (.int .i64 c.r6) := cell_of_row _ _ 9 _ _ _ hx
  have c10 : w1.cell? ⟨w.heap.size, 10, none⟩ = some (.int .i64 c.r7) := cell_of_row _ _ 10 _ _ _ hx
  have c11 : w1.cell? ⟨w.heap.size, 11, none⟩ = some (.int .i64 c.r8) := cell_of_row _ _ 11 _ _ _ hx
  have c12 : w1.cell? ⟨w.heap.size, 12, none⟩ = some (.int .i64 c.r9) := cell_of_row _ _ 12 _ _ _ hx
  have c13 : w1.cell? ⟨w.heap.size, 13, none⟩ = some (.int .i64 c.ra) := cell_of_row _ _ 13 _ _ _ hx
  have c14 : w1.cell? ⟨w.heap.size, 14, none⟩ = some (.int .i64 c.rb) := cell_of_row _ _ 14 _ _ _ hx
  have HX1 := Lib.hid hx
  clear hx
  clear q0
  go_wp2_with fail
  refine (rvalid_any c _).mono ?_
  rintro e w2 ⟨rfl, hb⟩
  rw [HU.out]
  have hx : w2.heap[w.heap.size]? = some (.cells (cfgA c) 27 (0, 0)) := by
    rw [hb.block _ (World.block_lt_of_cell? _ _ c0)]
    exact HX1.out
  have HB2 := Lib.hid (HB1.out.trans (hb.mono HB1.out.size))
  clear hb c0 c1 c2 c3 c4 c5 c6 c7 c8 c9 c10 c11 c12 c13 c14
  have c0 : w2.cell? ⟨w.heap.size, 0, none⟩ = some (.int .i64 c.n) := cell_of_row _ _ 0 _ _ _ hx
  have c1 : w2.cell? ⟨w.heap.size, 1, none⟩ = some (.int .i64 c.s) := cell_of_row _ _ 1 _ _ _ hx
  have c2 : w2.cell? ⟨w.heap.size, 2, none⟩ = some (.int .i64 c.t) := cell_of_row _ _ 2 _ _ _ hx
  have c3 : w2.cell? ⟨w.heap.size, 3, none⟩ = some (.int .i64 c.r0) := cell_of_row _ _ 3 _ _ _ hx
  have c4 : w2.cell? ⟨w.heap.size, 4, none⟩ = some (.int .i64 c.r1) := cell_of_row _ _ 4 _ _ _ hx
  have c5 : w2.cell? ⟨w.heap.size, 5, none⟩ = some (.int .i64 c.r2) := cell_of_row _ _ 5 _ _ _ hx
  have c6 : w2.cell? ⟨w.heap.size, 6, none⟩ = some (.int .i64 c.r3) := cell_of_row _ _ 6 _ _ _ hx
  have c7 : w2.cell? ⟨w.heap.size, 7, none⟩ = some (.int .i64 c.r4) := cell_of_row _ _ 7 _ _ _ hx
  have c8 : w2.cell? ⟨w.heap.size, 8, none⟩ = some (.int .i64 c.r5) := cell_of_row _ _ 8 _ _ _ hx
  have c9 : w2.cell? ⟨w.heap.size, 9, none⟩ = some (.int .i64 c.r6) := cell_of_row _ _ 9 _ _ _ hx
  have c10 : w2.cell? ⟨w.heap.size, 10, none⟩ = some (.int .i64 c.r7) := cell_of_row _ _ 10 _ _ _ hx
  have c11 : w2.cell? ⟨w.heap.size, 11, none⟩ = some (.int .i64 c.r8) := cell_of_row _ _ 11 _ _ _ hx
  have c12 : w2.cell? ⟨w.heap.size, 12, none⟩ = some (.int .i64 c.r9) := cell_of_row _ _ 12 _ _ _ hx
  have c13 : w2.cell? ⟨w.heap.size, 13, none⟩ = some (.int .i64 c.ra) := cell_of_row _ _ 13 _ _ _ hx
  have c14 : w2.cell? ⟨w.heap.size, 14, none⟩ = some (.int .i64 c.rb) := cell_of_row _ _ 14 _ _ _ hx
  have HX2 := Lib.hid hx
  clear hx
  cases b with
  | false =>
    clear c0 c1 c2 c3 c4 c5 c6 c7 c8 c9 c10 c11 c12 c13 c14
    go_wp2_with fail
    go_ret
    go_light
    exact ⟨rfl, HB2.out⟩
  | true =>
    by_cases s40 : c.s > 40
    · skip
      clear c0 c2 c3 c4 c5 c6 c7 c8 c9 c10 c11 c12 c13 c14
      go_wp2_with fail
      go_ret
      go_light
      exact ⟨rfl, HB2.out⟩
    by_cases h0 : core < 0
    · skip
      clear c0 c2 c3 c4 c5 c6 c7 c8 c9 c10 c11 c12 c13 c14
      go_wp2_with fail
      go_ret
      go_light
      exact ⟨rfl, HB2.out⟩
    by_cases h1 : c.n ≤ core
    · skip
      clear c2 c3 c4 c5 c6 c7 c8 c9 c10 c11 c12 c13 c14
      go_wp2_with fail
      go_ret
      go_light
      exact ⟨rfl, HB2.out⟩
    have ux := use_ok HU.out (core := core) (x := x) (by omega) (by omega) x0 (by omega)
    have bx := strt0_bounds c core x ux
    obtain ⟨n1, n4, t1, ts, s6⟩ := vld_n HU.out
    have HS : Hid (strt c core x = strt0 c core x) := Lib.hid (by rw [strt, if_pos ux])
    have HD : Hid (don c core x = strt0 c core x + c.t) := Lib.hid (by rw [don, if_pos ux])
    have HO : Hid (ownr c x = rown c x) := Lib.hid (by rw [ownr, if_pos (use_ok HU.out (by omega) (by omega) x0 (by omega)), rown])
    have HR : Hid (∀ w, Calls Try.prog 21 #[cfgV c, .int .i64 core, .int .i64 x] w (IntEnd w (strt0 c core x))) := Lib.hid fun w => rstart_any c core x w HU.out (by omega) (by omega) x0 (by omega)
    clear ux
    generalize strt0 c core x = S at *
    obtain ⟨o, ho⟩ : ∃ o, rown c x = o := ⟨_, rfl⟩
    rw [ho] at HO
    have HP := Lib.hid ho
    clear ho
    have w1_ : IntKind.i64.wrap (S + c.t) = S + c.t := IntWalk.i64_in _ (by omega)
    have q1 : (o == o) = true := by simp
    have q2 : (S == S) = true := by simp
    have q3 : (S + c.t == S + c.t) = true := by simp
    go_wp2_with fail
    refine (cycle_any x x0 (by omega) _).mono ?_
    rintro e w3 ⟨rfl, hb⟩
    have hx : w3.heap[w.heap.size]? = some (.cells (cfgA c) 27 (0, 0)) := by
      rw [hb.block _ (World.block_lt_of_cell? _ _ c0)]
      exact HX2.out
    have HB3 := Lib.hid (HB2.out.trans (hb.mono HB2.out.size))
    clear hb c0 c1 c2 c3 c4 c5 c6 c7 c8 c9 c10 c11 c12 c13 c14
    have c0 : w3.cell? ⟨w.heap.size, 0, none⟩ = some (.int .i64 c.n) := cell_of_row _ _ 0 _ _ _ hx
    have c1 : w3.cell? ⟨w.heap.size, 1, none⟩ = some (.int .i64 c.s) := cell_of_row _ _ 1 _ _ _ hx
    have c2 : w3.cell? ⟨w.heap.size, 2, none⟩ = some (.int .i64 c.t) := cell_of_row _ _ 2 _ _ _ hx
    have c3 : w3.cell? ⟨w.heap.size, 3, none⟩ = some (.int .i64 c.r0) := cell_of_row _ _ 3 _ _ _ hx
    have c4 : w3.cell? ⟨w.heap.size, 4, none⟩ = some (.int .i64 c.r1) := cell_of_row _ _ 4 _ _ _ hx
    have c5 : w3.cell? ⟨w.heap.size, 5, none⟩ = some (.int .i64 c.r2) := cell_of_row _ _ 5 _ _ _ hx
    have c6 : w3.cell? ⟨w.heap.size, 6, none⟩ = some (.int .i64 c.r3) := cell_of_row _ _ 6 _ _ _ hx
    have c7 : w3.cell? ⟨w.heap.size, 7, none⟩ = some (.int .i64 c.r4) := cell_of_row _ _ 7 _ _ _ hx
    have c8 : w3.cell? ⟨w.heap.size, 8, none⟩ = some (.int .i64 c.r5) := cell_of_row _ _ 8 _ _ _ hx
    have c9 : w3.cell? ⟨w.heap.size, 9, none⟩ = some (.int .i64 c.r6) := cell_of_row _ _ 9 _ _ _ hx
    have c10 : w3.cell? ⟨w.heap.size, 10, none⟩ = some (.int .i64 c.r7) := cell_of_row _ _ 10 _ _ _ hx
    have c11 : w3.cell? ⟨w.heap.size, 11, none⟩ = some (.int .i64 c.r8) := cell_of_row _ _ 11 _ _ _ hx
    have c12 : w3.cell? ⟨w.heap.size, 12, none⟩ = some (.int .i64 c.r9) := cell_of_row _ _ 12 _ _ _ hx
    have c13 : w3.cell? ⟨w.heap.size, 13, none⟩ = some (.int .i64 c.ra) := cell_of_row _ _ 13 _ _ _ hx
    have c14 : w3.cell? ⟨w.heap.size, 14, none⟩ = some (.int .i64 c.rb) := cell_of_row _ _ 14 _ _ _ hx
    have HX3 := Lib.hid hx
    clear hx
    go_wp2_with fail
    refine (HR.out _).mono ?_
    rintro e w4 ⟨rfl, hb⟩
    have hx : w4.heap[w.heap.size]? = some (.cells (cfgA c) 27 (0, 0)) := by
      rw [hb.block _ (World.block_lt_of_cell? _ _ c0)]
      exact HX3.out
    have HB4 := Lib.hid (HB3.out.trans (hb.mono HB3.out.size))
    clear hb c0 c1 c2 c3 c4 c5 c6 c7 c8 c9 c10 c11 c12 c13 c14
    have c0 : w4.cell? ⟨w.heap.size, 0, none⟩ = some (.int .i64 c.n) := cell_of_row _ _ 0 _ _ _ hx
    have c1 : w4.cell? ⟨w.heap.size, 1, none⟩ = some (.int .i64 c.s) := cell_of_row _ _ 1 _ _ _ hx
    have c2 : w4.cell? ⟨w.heap.size, 2, none⟩ = some (.int .i64 c.t) := cell_of_row _ _ 2 _ _ _ hx
    have c3 : w4.cell? ⟨w.heap.size, 3, none⟩ = some (.int .i64 c.r0) := cell_of_row _ _ 3 _ _ _ hx
    have c4 : w4.cell? ⟨w.heap.size, 4, none⟩ = some (.int .i64 c.r1) := cell_of_row _ _ 4 _ _ _ hx
    have c5 : w4.cell? ⟨w.heap.size, 5, none⟩ = some (.int .i64 c.r2) := cell_of_row _ _ 5 _ _ _ hx
    have c6 : w4.cell? ⟨w.heap.size, 6, none⟩ = some (.int .i64 c.r3) := cell_of_row _ _ 6 _ _ _ hx
    have c7 : w4.cell? ⟨w.heap.size, 7, none⟩ = some (.int .i64 c.r4) := cell_of_row _ _ 7 _ _ _ hx
    have c8 : w4.cell? ⟨w.heap.size, 8, none⟩ = some (.int .i64 c.r5) := cell_of_row _ _ 8 _ _ _ hx
    have c9 : w4.cell? ⟨w.heap.size, 9, none⟩ = some (.int .i64 c.r6) := cell_of_row _ _ 9 _ _ _ hx
    have c10 : w4.cell? ⟨w.heap.size, 10, none⟩ = some (.int .i64 c.r7) := cell_of_row _ _ 10 _ _ _ hx
    have c11 : w4.cell? ⟨w.heap.size, 11, none⟩ = some (.int .i64 c.r8) := cell_of_row _ _ 11 _ _ _ hx
    have c12 : w4.cell? ⟨w.heap.size, 12, none⟩ = some (.int .i64 c.r9) := cell_of_row _ _ 12 _ _ _ hx
    have c13 : w4.cell? ⟨w.heap.size, 13, none⟩ = some (.int .i64 c.ra) := cell_of_row _ _ 13 _ _ _ hx
    have c14 : w4.cell? ⟨w.heap.size, 14, none⟩ = some (.int .i64 c.rb) := cell_of_row _ _ 14 _ _ _ hx
    have HX4 := Lib.hid hx
    clear hx
    go_wp2_with fail
    have X0 := Ext.cell c0
    have X1 := Ext.cell c1
    have X2 := Ext.cell c2
    have X3 := Ext.cell c3
    have X4 := Ext.cell c4
    have X5 := Ext.cell c5
    have X6 := Ext.cell c6
    have X7 := Ext.cell c7
    have X8 := Ext.cell c8
    have X9 := Ext.cell c9
    have X10 := Ext.cell c10
    have X11 := Ext.cell c11
    have X12 := Ext.cell c12
    have X13 := Ext.cell c13
    have X14 := Ext.cell c14
    clear c0 c1 c2 c3 c4 c5 c6 c7 c8 c9 c10 c11 c12 c13 c14
    refine wq_region (by kernel_rfl) (by kernel_rfl) ?_
    repeat (refine Wq.step (fun K hK => ?_); go_simp; first | (refine hK _ ?_; clear hK K) | (refine ⟨_, fun _ => rfl, hK _ ?_⟩; clear hK K))
    refine Wq.step (fun K hK => ?_)
    go_simp
    apply Exists.intro
    refine ⟨fun _ => ?_, hK _ ?_⟩
    · exact Ext.call _ (owner_v c x o _ HO.out)
    clear hK K
    repeat (refine Wq.step (fun K hK => ?_); go_simp; first | (refine hK _ ?_; clear hK K) | (refine ⟨_, fun _ => rfl, hK _ ?_⟩; clear hK K))
    refine Wq.step (fun K hK => ?_)
    go_simp
    apply Exists.intro
    refine ⟨fun _ => ?_, hK _ ?_⟩
    · exact Ext.call _ (rown_v c x o _ HU.out x0 (by omega) HP.out)
    clear hK K
    repeat (refine Wq.step (fun K hK => ?_); go_simp; first | (refine hK _ ?_; clear hK K) | (refine ⟨_, fun _ => rfl, hK _ ?_⟩; clear hK K))
    refine Wq.step (fun K hK => ?_)
    go_simp
    apply Exists.intro
    refine ⟨fun _ => ?_, hK _ ?_⟩
    · exact Ext.call _ (start_v c core x S _ HS.out)
    clear hK K
    repeat (refine Wq.step (fun K hK => ?_); go_simp; first | (refine hK _ ?_; clear hK K) | (refine ⟨_, fun _ => rfl, hK _ ?_⟩; clear hK K))
    refine Wq.step (fun K hK => ?_)
    go_simp
    apply Exists.intro
    refine ⟨fun _ => ?_, hK _ ?_⟩
    · exact Ext.call _ (done_v c core x _ _ HD.out)
    clear hK K
    repeat (refine Wq.step (fun K hK => ?_); go_simp; first | (refine hK _ ?_; clear hK K) | (refine ⟨_, fun _ => rfl, hK _ ?_⟩; clear hK K))
    refine Wq.nil ?_
    rintro _ ⟨u, rfl⟩
    obtain ⟨w5, hb⟩ := u
    simp only []
    have HB5 := Lib.hid (HB4.out.trans (hb.mono HB4.out.size))
    clear hb
    go_wp2_with fail
    go_ret
    go_light
    exact ⟨rfl, HB5.out⟩
end Go.Proofs.Ytjdkaagkaambkab
