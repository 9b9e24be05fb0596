/- BusMonotone: the walk. -/
import Derived.Test.YtjdkaagkaambkabQ
namespace Go.Proofs.Ytjdkaagkaambkab
open Go.RowKit Go.Proofs
theorem start_b (c : Cfg) (core x z : Int) (w : World) (h : strt c core x = z) : Calls Try.prog 14 #[cfgV c, .int .i64 core, .int .i64 x] w fun e w' => e = .returned (.int .i64 z) ∧ Below w.heap.size w w' := by
  rw [← h]; exact start_any c core x w
theorem done_b (c : Cfg) (core x z : Int) (w : World) (h : don c core x = z) : Calls Try.prog 20 #[cfgV c, .int .i64 core, .int .i64 x] w fun e w' => e = .returned (.int .i64 z) ∧ Below w.heap.size w w' := by
  rw [← h]; exact done_any c core x w
def TrueEnd (w : World) (e : Ending) (w' : World) : Prop := e = .returned (.bool true) ∧ Below w.heap.size w w'
set_option maxHeartbeats 2000000 in
set_option maxRecDepth 1000000 in
theorem mono_walk (c : Cfg) (core x d : Int) (w : World) (x0 : 0 ≤ x) (x1 : x ≤ 4294967295) (d0 : 0 ≤ d) (d1 : d ≤ 65535) : Calls Try.prog 7 #[cfgV c, .int .i64 core, .int .u32 x, .int .u16 d] w (TrueEnd w) := by
  obtain ⟨b, hu⟩ : ∃ b, vld c = b := ⟨_, rfl⟩
  have HU := Lib.hid hu
  clear hu
  go_enter Try.func7, Try.ntmps7
  go_wp2_with fail
  refine (awake_any _).mono ?_
  rintro e w1 ⟨rfl, hb⟩
  have hx : w1.heap[w.heap.size]? = some (.cells (cfgA c) 27 (0, 0)) := by
    rw [hb.block _ (by simp)]
    exact heap_alloc_new w _
  have HB1 := Lib.hid (((Below.refl _ _).alloc (Nat.le_refl _) _).trans (hb.mono (by simp)))
  have c0 : w1.cell? ⟨w.heap.size, 0, none⟩ = some (.int .i64 c.n) := cell_of_row _ _ 0 _ _ _ hx
  have c1 : w1.cell? ⟨w.heap.size, 1, none⟩ = some (.int .i64 c.s) := cell_of_row _ _ 1 _ _ _ hx
  have c2 : w1.cell? ⟨w.heap.size, 2, none⟩ = some (.int .i64 c.t) := cell_of_row _ _ 2 _ _ _ hx
  have c3 : w1.cell? ⟨w.heap.size, 3, none⟩ = some (.int .i64 c.r0) := cell_of_row _ _ 3 _ _ _ hx
  have c4 : w1.cell? ⟨w.heap.size, 4, none⟩ = some (.int .i64 c.r1) := cell_of_row _ _ 4 _ _ _ hx
  have c5 : w1.cell? ⟨w.heap.size, 5, none⟩ = some (.int .i64 c.r2) := cell_of_row _ _ 5 _ _ _ hx
  have c6 : w1.cell? ⟨w.heap.size, 6, none⟩ = some (.int .i64 c.r3) := cell_of_row _ _ 6 _ _ _ hx
  have c7 : w1.cell? ⟨w.heap.size, 7, none⟩ = some (.int .i64 c.r4) := cell_of_row _ _ 7 _ _ _ hx
  have c8 : w1.cell? ⟨w.heap.size, 8, none⟩ = some (.int .i64 c.r5) := cell_of_row _ _ 8 _ _ _ hx
  have c9 : w1.cell? ⟨w.heap.size, 9, none⟩ = some (.int .i64 c.r6) := cell_of_row _ _ 9 _ _ _ hx
  have c10 : w1.cell? ⟨w.heap.size, 10, none⟩ = some (.int .i64 c.r7) := cell_of_row _ _ 10 _ _ _ hx
  have c11 : w1.cell? ⟨w.heap.size, 11, none⟩ = some (.int .i64 c.r8) := cell_of_row _ _ 11 _ _ _ hx
  have c12 : w1.cell? ⟨w.heap.size, 12, none⟩ = some (.int .i64 c.r9) := cell_of_row _ _ 12 _ _ _ hx
  have c13 : w1.cell? ⟨w.heap.size, 13, none⟩ = some (.int .i64 c.ra) := cell_of_row _ _ 13 _ _ _ hx
  have c14 : w1.cell? ⟨w.heap.size, 14, none⟩ = some (.int .i64 c.rb) := cell_of_row _ _ 14 _ _ _ hx
  have HX1 := Lib.hid hx
  clear hb hx
  go_wp2_with fail
  refine (valid_any c _).mono ?_
  rintro e w2 ⟨rfl, hb⟩
  rw [HU.out]
  have hx : w2.heap[w.heap.size]? = some (.cells (cfgA c) 27 (0, 0)) := by
    rw [hb.block _ (World.block_lt_of_cell? _ _ c0)]
    exact HX1.out
  have HB2 := Lib.hid (HB1.out.trans (hb.mono HB1.out.size))
  clear hb c0 c1 c2 c3 c4 c5 c6 c7 c8 c9 c10 c11 c12 c13 c14

  have c0 : w2.cell? ⟨w.heap.size, 0, none⟩ = some (.int .i64 c.n) := cell_of_row _ _ 0 _ _ _ hx
  have c1 : w2.cell? ⟨w.heap.size, 1, none⟩ = some (.int .i64 c.s) := cell_of_row _ _ 1 _ _ _ hx
  have c2 : w2.cell? ⟨w.heap.size, 2, none⟩ = some (.int .i64 c.t) := cell_of_row _ _ 2 _ _ _ hx
  have c3 : w2.cell? ⟨w.heap.size, 3, none⟩ = some (.int .i64 c.r0) := cell_of_row _ _ 3 _ _ _ hx
  have c4 : w2.cell? ⟨w.heap.size, 4, none⟩ = some (.int .i64 c.r1) := cell_of_row _ _ 4 _ _ _ hx
  have c5 : w2.cell? ⟨w.heap.size, 5, none⟩ = some (.int .i64 c.r2) := cell_of_row _ _ 5 _ _ _ hx
  have c6 : w2.cell? ⟨w.heap.size, 6, none⟩ = some (.int .i64 c.r3) := cell_of_row _ _ 6 _ _ _ hx
  have c7 : w2.cell? ⟨w.heap.size, 7, none⟩ = some (.int .i64 c.r4) := cell_of_row _ _ 7 _ _ _ hx
  have c8 : w2.cell? ⟨w.heap.size, 8, none⟩ = some (.int .i64 c.r5) := cell_of_row _ _ 8 _ _ _ hx
  have c9 : w2.cell? ⟨w.heap.size, 9, none⟩ = some (.int .i64 c.r6) := cell_of_row _ _ 9 _ _ _ hx
  have c10 : w2.cell? ⟨w.heap.size, 10, none⟩ = some (.int .i64 c.r7) := cell_of_row _ _ 10 _ _ _ hx
  have c11 : w2.cell? ⟨w.heap.size, 11, none⟩ = some (.int .i64 c.r8) := cell_of_row _ _ 11 _ _ _ hx
  have c12 : w2.cell? ⟨w.heap.size, 12, none⟩ = some (.int .i64 c.r9) := cell_of_row _ _ 12 _ _ _ hx
  have c13 : w2.cell? ⟨w.heap.size, 13, none⟩ = some (.int .i64 c.ra) := cell_of_row _ _ 13 _ _ _ hx
  have c14 : w2.cell? ⟨w.heap.size, 14, none⟩ = some (.int .i64 c.rb) := cell_of_row _ _ 14 _ _ _ hx
  have HX2 := Lib.hid hx
  clear hx
  cases b with
  | false =>
    clear c0 c1 c2 c3 c4 c5 c6 c7 c8 c9 c10 c11 c12 c13 c14
    go_wp2_with fail
    refine (awake_any _).mono ?_
    rintro e w3 ⟨rfl, hb⟩
    have HB3 := Lib.hid (HB2.out.trans (hb.mono HB2.out.size))
    clear hb
    go_wp2_with fail
    go_ret
    go_light
    exact ⟨rfl, HB3.out⟩
  | true =>
    by_cases h0 : core < 0
    · clear c0 c1 c2 c3 c4 c5 c6 c7 c8 c9 c10 c11 c12 c13 c14
      go_wp2_with fail
      refine (awake_any _).mono ?_
      rintro e w3 ⟨rfl, hb⟩
      have HB3 := Lib.hid (HB2.out.trans (hb.mono HB2.out.size))
      clear hb
      go_wp2_with fail
      go_ret
      go_light
      exact ⟨rfl, HB3.out⟩
    · by_cases h1 : core < c.n
      · obtain ⟨p1, p2, p3, p4⟩ := mono_plain c core x d HU.out (by omega) h1 x0 x1 d0 d1
        have u : ∀ y, 0 ≤ y → y ≤ 1099511627776 → use c core [y] = true := fun y a b => by
          have h0' : 0 ≤ core := by omega
          simp [use, HU.out, okc, h0', h1, a, b]
        have bs := strt0_bounds c core x (u x x0 (by omega))
        have HSS : Hid (strt c core (strt0 c core x) = strt0 c core x) := Lib.hid (by rw [strt, if_pos (u _ (by omega) (by omega)), p3])
        have HD : Hid (don c core x = strt0 c core x + c.t) := Lib.hid (by rw [don, if_pos (u _ (by omega) (by omega))])
        have HS : Hid (strt c core x = strt0 c core x) := Lib.hid (by rw [strt, if_pos (u _ (by omega) (by omega))])
        have HT : Hid (strt c core (x + d) = strt0 c core (x + d)) := Lib.hid (by rw [strt, if_pos (u _ (by omega) (by omega))])
        obtain ⟨n1, n4, t1, ts, s6⟩ := vld_n HU.out
        clear u p3
        generalize strt0 c core x = s at *
        generalize strt0 c core (x + d) = t at *
        have hw1 : IntKind.i64.wrap (x + d) = x + d := IntWalk.i64_in _ (by omega)
        have hwd : IntKind.i64.wrap d = d := IntWalk.i64_in _ (by omega)
        have hw2 : IntKind.i64.wrap (s + c.t) = s + c.t := IntWalk.i64_in _ (by omega)
        go_wp2_with fail
        refine (cycle_any x x0 (by omega) _).mono ?_
        rintro e w3 ⟨rfl, hb⟩
        skip
        have hx : w3.heap[w.heap.size]? = some (.cells (cfgA c) 27 (0, 0)) := by
          rw [hb.block _ (World.block_lt_of_cell? _ _ c0)]
          exact HX2.out
        have HB3 := Lib.hid (HB2.out.trans (hb.mono HB2.out.size))
        clear hb c0 c1 c2 c3 c4 c5 c6 c7 c8 c9 c10 c11 c12 c13 c14

        have c0 : w3.cell? ⟨w.heap.size, 0, none⟩ = some (.int .i64 c.n) := cell_of_row _ _ 0 _ _ _ hx
        have c1 : w3.cell? ⟨w.heap.size, 1, none⟩ = some (.int .i64 c.s) := cell_of_row _ _ 1 _ _ _ hx
        have c2 : w3.cell? ⟨w.heap.size, 2, none⟩ = some (.int .i64 c.t) := cell_of_row _ _ 2 _ _ _ hx
        have c3 : w3.cell? ⟨w.heap.size, 3, none⟩ = some (.int .i64 c.r0) := cell_of_row _ _ 3 _ _ _ hx
        have c4 : w3.cell? ⟨w.heap.size, 4, none⟩ = some (.int .i64 c.r1) := cell_of_row _ _ 4 _ _ _ hx
        have c5 : w3.cell? ⟨w.heap.size, 5, none⟩ = some (.int .i64 c.r2) := cell_of_row _ _ 5 _ _ _ hx
        have c6 : w3.cell? ⟨w.heap.size, 6, none⟩ = some (.int .i64 c.r3) := cell_of_row _ _ 6 _ _ _ hx
        have c7 : w3.cell? ⟨w.heap.size, 7, none⟩ = some (.int .i64 c.r4) := cell_of_row _ _ 7 _ _ _ hx
        have c8 : w3.cell? ⟨w.heap.size, 8, none⟩ = some (.int .i64 c.r5) := cell_of_row _ _ 8 _ _ _ hx
        have c9 : w3.cell? ⟨w.heap.size, 9, none⟩ = some (.int .i64 c.r6) := cell_of_row _ _ 9 _ _ _ hx
        have c10 : w3.cell? ⟨w.heap.size, 10, none⟩ = some (.int .i64 c.r7) := cell_of_row _ _ 10 _ _ _ hx
        have c11 : w3.cell? ⟨w.heap.size, 11, none⟩ = some (.int .i64 c.r8) := cell_of_row _ _ 11 _ _ _ hx
        have c12 : w3.cell? ⟨w.heap.size, 12, none⟩ = some (.int .i64 c.r9) := cell_of_row _ _ 12 _ _ _ hx
        have c13 : w3.cell? ⟨w.heap.size, 13, none⟩ = some (.int .i64 c.ra) := cell_of_row _ _ 13 _ _ _ hx
        have c14 : w3.cell? ⟨w.heap.size, 14, none⟩ = some (.int .i64 c.rb) := cell_of_row _ _ 14 _ _ _ hx
        have HX3 := Lib.hid hx
        clear hx
        go_wp2_with fail
        refine (start_any c core x _).mono ?_
        rintro e w4 ⟨rfl, hb⟩
        rw [HS.out]
        have hx : w4.heap[w.heap.size]? = some (.cells (cfgA c) 27 (0, 0)) := by
          rw [hb.block _ (World.block_lt_of_cell? _ _ c0)]
          exact HX3.out
        have HB4 := Lib.hid (HB3.out.trans (hb.mono HB3.out.size))
        clear hb c0 c1 c2 c3 c4 c5 c6 c7 c8 c9 c10 c11 c12 c13 c14

        have c0 : w4.cell? ⟨w.heap.size, 0, none⟩ = some (.int .i64 c.n) := cell_of_row _ _ 0 _ _ _ hx
        have c1 : w4.cell? ⟨w.heap.size, 1, none⟩ = some (.int .i64 c.s) := cell_of_row _ _ 1 _ _ _ hx
        have c2 : w4.cell? ⟨w.heap.size, 2, none⟩ = some (.int .i64 c.t) := cell_of_row _ _ 2 _ _ _ hx
        have c3 : w4.cell? ⟨w.heap.size, 3, none⟩ = some (.int .i64 c.r0) := cell_of_row _ _ 3 _ _ _ hx
        have c4 : w4.cell? ⟨w.heap.size, 4, none⟩ = some (.int .i64 c.r1) := cell_of_row _ _ 4 _ _ _ hx
        have c5 : w4.cell? ⟨w.heap.size, 5, none⟩ = some (.int .i64 c.r2) := cell_of_row _ _ 5 _ _ _ hx
        have c6 : w4.cell? ⟨w.heap.size, 6, none⟩ = some (.int .i64 c.r3) := cell_of_row _ _ 6 _ _ _ hx
        have c7 : w4.cell? ⟨w.heap.size, 7, none⟩ = some (.int .i64 c.r4) := cell_of_row _ _ 7 _ _ _ hx
        have c8 : w4.cell? ⟨w.heap.size, 8, none⟩ = some (.int .i64 c.r5) := cell_of_row _ _ 8 _ _ _ hx
        have c9 : w4.cell? ⟨w.heap.size, 9, none⟩ = some (.int .i64 c.r6) := cell_of_row _ _ 9 _ _ _ hx
        have c10 : w4.cell? ⟨w.heap.size, 10, none⟩ = some (.int .i64 c.r7) := cell_of_row _ _ 10 _ _ _ hx
        have c11 : w4.cell? ⟨w.heap.size, 11, none⟩ = some (.int .i64 c.r8) := cell_of_row _ _ 11 _ _ _ hx
        have c12 : w4.cell? ⟨w.heap.size, 12, none⟩ = some (.int .i64 c.r9) := cell_of_row _ _ 12 _ _ _ hx
        have c13 : w4.cell? ⟨w.heap.size, 13, none⟩ = some (.int .i64 c.ra) := cell_of_row _ _ 13 _ _ _ hx
        have c14 : w4.cell? ⟨w.heap.size, 14, none⟩ = some (.int .i64 c.rb) := cell_of_row _ _ 14 _ _ _ hx
        have HX4 := Lib.hid hx
        clear hx
        go_wp2_with fail
        refine (start_any c core (x + d) _).mono ?_
        rintro e w5 ⟨rfl, hb⟩
        rw [HT.out]
        have hx : w5.heap[w.heap.size]? = some (.cells (cfgA c) 27 (0, 0)) := by
          rw [hb.block _ (World.block_lt_of_cell? _ _ c0)]
          exact HX4.out
        have HB5 := Lib.hid (HB4.out.trans (hb.mono HB4.out.size))
        clear hb c0 c1 c2 c3 c4 c5 c6 c7 c8 c9 c10 c11 c12 c13 c14

        have c0 : w5.cell? ⟨w.heap.size, 0, none⟩ = some (.int .i64 c.n) := cell_of_row _ _ 0 _ _ _ hx
        have c1 : w5.cell? ⟨w.heap.size, 1, none⟩ = some (.int .i64 c.s) := cell_of_row _ _ 1 _ _ _ hx
        have c2 : w5.cell? ⟨w.heap.size, 2, none⟩ = some (.int .i64 c.t) := cell_of_row _ _ 2 _ _ _ hx
        have c3 : w5.cell? ⟨w.heap.size, 3, none⟩ = some (.int .i64 c.r0) := cell_of_row _ _ 3 _ _ _ hx
        have c4 : w5.cell? ⟨w.heap.size, 4, none⟩ = some (.int .i64 c.r1) := cell_of_row _ _ 4 _ _ _ hx
        have c5 : w5.cell? ⟨w.heap.size, 5, none⟩ = some (.int .i64 c.r2) := cell_of_row _ _ 5 _ _ _ hx
        have c6 : w5.cell? ⟨w.heap.size, 6, none⟩ = some (.int .i64 c.r3) := cell_of_row _ _ 6 _ _ _ hx
        have c7 : w5.cell? ⟨w.heap.size, 7, none⟩ = some (.int .i64 c.r4) := cell_of_row _ _ 7 _ _ _ hx
        have c8 : w5.cell? ⟨w.heap.size, 8, none⟩ = some (.int .i64 c.r5) := cell_of_row _ _ 8 _ _ _ hx
        have c9 : w5.cell? ⟨w.heap.size, 9, none⟩ = some (.int .i64 c.r6) := cell_of_row _ _ 9 _ _ _ hx
        have c10 : w5.cell? ⟨w.heap.size, 10, none⟩ = some (.int .i64 c.r7) := cell_of_row _ _ 10 _ _ _ hx
        have c11 : w5.cell? ⟨w.heap.size, 11, none⟩ = some (.int .i64 c.r8) := cell_of_row _ _ 11 _ _ _ hx
        have c12 : w5.cell? ⟨w.heap.size, 12, none⟩ = some (.int .i64 c.r9) := cell_of_row _ _ 12 _ _ _ hx
        have c13 : w5.cell? ⟨w.heap.size, 13, none⟩ = some (.int .i64 c.ra) := cell_of_row _ _ 13 _ _ _ hx
        have c14 : w5.cell? ⟨w.heap.size, 14, none⟩ = some (.int .i64 c.rb) := cell_of_row _ _ 14 _ _ _ hx
        have HX5 := Lib.hid hx
        clear hx
        go_wp2_with fail
        have q1 : decide (s ≥ x) = true := decide_eq_true (by omega)
        have q1' : decide (x ≤ s) = true := decide_eq_true (by omega)
        have q2 : decide (s ≤ t) = true := decide_eq_true (by omega)
        have q3 : (s == s) = true := by simp
        have q4 : (s + c.t == s + c.t) = true := by simp

        have X0 := Ext.cell c0
        have X1 := Ext.cell c1
        have X2 := Ext.cell c2
        have X3 := Ext.cell c3
        have X4 := Ext.cell c4
        have X5 := Ext.cell c5
        have X6 := Ext.cell c6
        have X7 := Ext.cell c7
        have X8 := Ext.cell c8
        have X9 := Ext.cell c9
        have X10 := Ext.cell c10
        have X11 := Ext.cell c11
        have X12 := Ext.cell c12
        have X13 := Ext.cell c13
        have X14 := Ext.cell c14
        clear c0 c1 c2 c3 c4 c5 c6 c7 c8 c9 c10 c11 c12 c13 c14
        by_cases hlt : s < x + d
        · have q5 : decide (x + d > s) = true := decide_eq_true hlt
          have q5' : decide (s < x + d) = true := decide_eq_true hlt
          clear p4 hlt
          refine wq_region (by kernel_rfl) (by kernel_rfl) ?_
          repeat (refine Wq.step (fun K hK => ?_); go_simp; first | (refine hK _ ?_; clear hK K) | (refine ⟨_, fun _ => rfl, hK _ ?_⟩; clear hK K) | (apply Exists.intro; refine ⟨fun _ => ?_, hK _ ?_⟩; (first | exact Ext.call _ (start_b c core _ s _ HSS.out) | exact Ext.call _ (done_b c core _ _ _ HD.out)); clear hK K))
          refine Wq.nil ?_
          rintro _ ⟨u, rfl⟩
          go_wp2_with fail
          go_ret
          go_light
          exact ⟨rfl, HB5.out.trans (u.2.mono HB5.out.size)⟩
        · have ht : t = s := p4 (by omega)
          subst ht
          have q5 : decide (x + d > t) = false := decide_eq_false hlt
          have q5' : decide (t < x + d) = false := decide_eq_false hlt
          clear p4 hlt
          refine wq_region (by kernel_rfl) (by kernel_rfl) ?_
          repeat (refine Wq.step (fun K hK => ?_); go_simp; first | (refine hK _ ?_; clear hK K) | (refine ⟨_, fun _ => rfl, hK _ ?_⟩; clear hK K) | (apply Exists.intro; refine ⟨fun _ => ?_, hK _ ?_⟩; (first | exact Ext.call _ (start_b c core _ t _ HSS.out) | exact Ext.call _ (done_b c core _ _ _ HD.out)); clear hK K))
          refine Wq.nil ?_
          rintro _ ⟨u, rfl⟩
          go_wp2_with fail
          go_ret
          go_light
          exact ⟨rfl, HB5.out.trans (u.2.mono HB5.out.size)⟩
      · have h1' : c.n ≤ core := by omega
        clear c1 c2 c3 c4 c5 c6 c7 c8 c9 c10 c11 c12 c13 c14 h1
        go_wp2_with fail
        refine (awake_any _).mono ?_
        rintro e w3 ⟨rfl, hb⟩
        have HB3 := Lib.hid (HB2.out.trans (hb.mono HB2.out.size))
        clear hb
        go_wp2_with fail
        go_ret
        go_light
        exact ⟨rfl, HB3.out⟩
end Go.Proofs.Ytjdkaagkaambkab
