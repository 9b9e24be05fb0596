/- BusRefuses: the walk, fourth part. -/
import Derived.Test.YtjdkaagkaambkabRefA
namespace Go.Proofs.Ytjdkaagkaambkab
open Go.RowKit Go.Proofs

set_option maxHeartbeats 2000000 in
set_option maxRecDepth 1000000 in
theorem ref_c3 (c : Cfg) (core x : Int) (w : World) (hv : vld c = true) (hx0 : 0 ≤ x) (hx1 : x ≤ 1099511627776) (h0 : ¬ core < 0) (h1 : ¬ c.n ≤ core) (h2 : x > 100000) : Calls Try.prog 9 #[cfgV c, .int .i64 core, .int .i64 x] w (TrvEnd w) := by
  have HU := Lib.hid hv
  go_enter Try.func9, Try.ntmps9
  clear hv
  go_wp2_with fail
  refine (awake_any _).mono ?_
  rintro e w1 ⟨rfl, hb⟩
  have hx : w1.heap[w.heap.size]? = some (.cells (cfgA c) 27 (0, 0)) := by
    rw [hb.block _ (by simp)]
    exact heap_alloc_new w _
  have HB1 := Lib.hid (((Below.refl _ _).alloc (Nat.le_refl _) _).trans (hb.mono (by simp)))
  have c0 : w1.cell? ⟨w.heap.size, 0, none⟩ = some (.int .i64 c.n) := cell_of_row _ _ 0 _ _ _ hx
  have c1 : w1.cell? ⟨w.heap.size, 1, none⟩ = some (.int .i64 c.s) := cell_of_row _ _ 1 _ _ _ hx
  have c2 : w1.cell? ⟨w.heap.size, 2, none⟩ = some (.int .i64 c.t) := cell_of_row _ _ 2 _ _ _ hx
  have c3 : w1.cell? ⟨w.heap.size, 3, none⟩ = some (.int .i64 c.r0) := cell_of_row _ _ 3 _ _ _ hx
  have c4 : w1.cell? ⟨w.heap.size, 4, none⟩ = some (.int .i64 c.r1) := cell_of_row _ _ 4 _ _ _ hx
  have c5 : w1.cell? ⟨w.heap.size, 5, none⟩ = some (.int .i64 c.r2) := cell_of_row _ _ 5 _ _ _ hx
  have c6 : w1.cell? ⟨w.heap.size, 6, none⟩ = some (.int .i64 c.r3) := cell_of_row _ _ 6 _ _ _ hx
  have c7 : w1.cell? ⟨w.heap.size, 7, none⟩ = some (.int .i64 c.r4) := cell_of_row _ _ 7 _ _ _ hx
  have c8 : w1.cell? ⟨w.heap.size, 8, none⟩ = some (.int .i64 c.r5) := cell_of_row _ _ 8 _ _ _ hx
  have c9 : w1.cell? ⟨w.heap.size, 9, none⟩ = some (.int .i64 c.r6) := cell_of_row _ _ 9 _ _ _ hx
  have c10 : w1.cell? ⟨w.heap.size, 10, none⟩ = some (.int .i64 c.r7) := cell_of_row _ _ 10 _ _ _ hx
  have c11 : w1.cell? ⟨w.heap.size, 11, none⟩ = some (.int .i64 c.r8) := cell_of_row _ _ 11 _ _ _ hx
  have c12 : w1.cell? ⟨w.heap.size, 12, none⟩ = some (.int .i64 c.r9) := cell_of_row _ _ 12 _ _ _ hx
  have c13 : w1.cell? ⟨w.heap.size, 13, none⟩ = some (.int .i64 c.ra) := cell_of_row _ _ 13 _ _ _ hx
  have c14 : w1.cell? ⟨w.heap.size, 14, none⟩ = some (.int .i64 c.rb) := cell_of_row _ _ 14 _ _ _ hx
  have HX1 := Lib.hid hx
  clear hb hx
  go_wp2_with fail
  refine (valid_any c _).mono ?_
  rintro e w2 ⟨rfl, hb⟩
  rw [HU.out]
  have hx : w2.heap[w.heap.size]? = some (.cells (cfgA c) 27 (0, 0)) := by
    rw [hb.block _ (World.block_lt_of_cell? _ _ c0)]
    exact HX1.out
  have HB2 := Lib.hid (HB1.out.trans (hb.mono HB1.out.size))
  clear hb c0 c1 c2 c3 c4 c5 c6 c7 c8 c9 c10 c11 c12 c13 c14
  have c0 : w2.cell? ⟨w.heap.size, 0, none⟩ = some (.int .i64 c.n) := cell_of_row _ _ 0 _ _ _ hx
  have c1 : w2.cell? ⟨w.heap.size, 1, none⟩ = some (.int .i64 c.s) := cell_of_row _ _ 1 _ _ _ hx
  have c2 : w2.cell? ⟨w.heap.size, 2, none⟩ = some (.int .i64 c.t) := cell_of_row _ _ 2 _ _ _ hx
  have c3 : w2.cell? ⟨w.heap.size, 3, none⟩ = some (.int .i64 c.r0) := cell_of_row _ _ 3 _ _ _ hx
  have c4 : w2.cell? ⟨w.heap.size, 4, none⟩ = some (.int .i64 c.r1) := cell_of_row _ _ 4 _ _ _ hx
  have c5 : w2.cell? ⟨w.heap.size, 5, none⟩ = some (.int .i64 c.r2) := cell_of_row _ _ 5 _ _ _ hx
  have c6 : w2.cell? ⟨w.heap.size, 6, none⟩ = some (.int .i64 c.r3) := cell_of_row _ _ 6 _ _ _ hx
  have c7 : w2.cell? ⟨w.heap.size, 7, none⟩ = some (.int .i64 c.r4) := cell_of_row _ _ 7 _ _ _ hx
  have c8 : w2.cell? ⟨w.heap.size, 8, none⟩ = some (.int .i64 c.r5) := cell_of_row _ _ 8 _ _ _ hx
  have c9 : w2.cell? ⟨w.heap.size, 9, none⟩ = some (.int .i64 c.r6) := cell_of_row _ _ 9 _ _ _ hx
  have c10 : w2.cell? ⟨w.heap.size, 10, none⟩ = some (.int .i64 c.r7) := cell_of_row _ _ 10 _ _ _ hx
  have c11 : w2.cell? ⟨w.heap.size, 11, none⟩ = some (.int .i64 c.r8) := cell_of_row _ _ 11 _ _ _ hx
  have c12 : w2.cell? ⟨w.heap.size, 12, none⟩ = some (.int .i64 c.r9) := cell_of_row _ _ 12 _ _ _ hx
  have c13 : w2.cell? ⟨w.heap.size, 13, none⟩ = some (.int .i64 c.ra) := cell_of_row _ _ 13 _ _ _ hx
  have c14 : w2.cell? ⟨w.heap.size, 14, none⟩ = some (.int .i64 c.rb) := cell_of_row _ _ 14 _ _ _ hx
  have HX2 := Lib.hid hx
  clear hx
  have io := own_pos (c := c) HU.out hx0 hx1
  obtain ⟨zo, eo⟩ : ∃ z, ownr c x = z := ⟨_, rfl⟩
  rw [eo] at io
  have Io := Lib.hid eo
  clear eo
  have mo : ¬ zo = -1 := by omega
  have bo : (zo == -1) = false := by simpa using mo
  go_wp2_with fail
  refine (owner_any c x _).mono ?_
  rintro e w3 ⟨rfl, hb⟩
  rw [Io.out]
  have hx : w3.heap[w.heap.size]? = some (.cells (cfgA c) 27 (0, 0)) := by
    rw [hb.block _ (World.block_lt_of_cell? _ _ c0)]
    exact HX2.out
  have HB3 := Lib.hid (HB2.out.trans (hb.mono HB2.out.size))
  clear hb c0 c1 c2 c3 c4 c5 c6 c7 c8 c9 c10 c11 c12 c13 c14
  have c0 : w3.cell? ⟨w.heap.size, 0, none⟩ = some (.int .i64 c.n) := cell_of_row _ _ 0 _ _ _ hx
  have c1 : w3.cell? ⟨w.heap.size, 1, none⟩ = some (.int .i64 c.s) := cell_of_row _ _ 1 _ _ _ hx
  have c2 : w3.cell? ⟨w.heap.size, 2, none⟩ = some (.int .i64 c.t) := cell_of_row _ _ 2 _ _ _ hx
  have c3 : w3.cell? ⟨w.heap.size, 3, none⟩ = some (.int .i64 c.r0) := cell_of_row _ _ 3 _ _ _ hx
  have c4 : w3.cell? ⟨w.heap.size, 4, none⟩ = some (.int .i64 c.r1) := cell_of_row _ _ 4 _ _ _ hx
  have c5 : w3.cell? ⟨w.heap.size, 5, none⟩ = some (.int .i64 c.r2) := cell_of_row _ _ 5 _ _ _ hx
  have c6 : w3.cell? ⟨w.heap.size, 6, none⟩ = some (.int .i64 c.r3) := cell_of_row _ _ 6 _ _ _ hx
  have c7 : w3.cell? ⟨w.heap.size, 7, none⟩ = some (.int .i64 c.r4) := cell_of_row _ _ 7 _ _ _ hx
  have c8 : w3.cell? ⟨w.heap.size, 8, none⟩ = some (.int .i64 c.r5) := cell_of_row _ _ 8 _ _ _ hx
  have c9 : w3.cell? ⟨w.heap.size, 9, none⟩ = some (.int .i64 c.r6) := cell_of_row _ _ 9 _ _ _ hx
  have c10 : w3.cell? ⟨w.heap.size, 10, none⟩ = some (.int .i64 c.r7) := cell_of_row _ _ 10 _ _ _ hx
  have c11 : w3.cell? ⟨w.heap.size, 11, none⟩ = some (.int .i64 c.r8) := cell_of_row _ _ 11 _ _ _ hx
  have c12 : w3.cell? ⟨w.heap.size, 12, none⟩ = some (.int .i64 c.r9) := cell_of_row _ _ 12 _ _ _ hx
  have c13 : w3.cell? ⟨w.heap.size, 13, none⟩ = some (.int .i64 c.ra) := cell_of_row _ _ 13 _ _ _ hx
  have c14 : w3.cell? ⟨w.heap.size, 14, none⟩ = some (.int .i64 c.rb) := cell_of_row _ _ 14 _ _ _ hx
  have HX3 := Lib.hid hx
  clear hx
  obtain ⟨i1, i2, i3, i4⟩ := pos4 (c := c) (core := core) (x := x) (by simp [use, HU.out, okc]; omega)
  obtain ⟨z1, e1⟩ : ∃ z, strt c core x = z := ⟨_, rfl⟩
  rw [e1] at i1
  have I1 := Lib.hid e1
  clear e1
  have m1 : ¬ z1 = -1 := by omega
  have b1 : (z1 == -1) = false := by simpa using m1
  obtain ⟨z2, e2⟩ : ∃ z, don c core x = z := ⟨_, rfl⟩
  rw [e2] at i2
  have I2 := Lib.hid e2
  clear e2
  have m2 : ¬ z2 = -1 := by omega
  have b2 : (z2 == -1) = false := by simpa using m2
  obtain ⟨z3, e3⟩ : ∃ z, bnd c core x x = z := ⟨_, rfl⟩
  rw [e3] at i3
  have I3 := Lib.hid e3
  clear e3
  have m3 : ¬ z3 = -1 := by omega
  have b3 : (z3 == -1) = false := by simpa using m3
  obtain ⟨z4, e4⟩ : ∃ z, bnd c core 0 x = z := ⟨_, rfl⟩
  rw [e4] at i4
  have I4 := Lib.hid e4
  clear e4
  have m4 : ¬ z4 = -1 := by omega
  have b4 : (z4 == -1) = false := by simpa using m4
  go_wp2_with fail
  refine (start_any c core x _).mono ?_
  rintro e w4 ⟨rfl, hb⟩
  rw [I1.out]
  have hx : w4.heap[w.heap.size]? = some (.cells (cfgA c) 27 (0, 0)) := by
    rw [hb.block _ (World.block_lt_of_cell? _ _ c0)]
    exact HX3.out
  have HB4 := Lib.hid (HB3.out.trans (hb.mono HB3.out.size))
  clear hb c0 c1 c2 c3 c4 c5 c6 c7 c8 c9 c10 c11 c12 c13 c14
  have c0 : w4.cell? ⟨w.heap.size, 0, none⟩ = some (.int .i64 c.n) := cell_of_row _ _ 0 _ _ _ hx
  have c1 : w4.cell? ⟨w.heap.size, 1, none⟩ = some (.int .i64 c.s) := cell_of_row _ _ 1 _ _ _ hx
  have c2 : w4.cell? ⟨w.heap.size, 2, none⟩ = some (.int .i64 c.t) := cell_of_row _ _ 2 _ _ _ hx
  have c3 : w4.cell? ⟨w.heap.size, 3, none⟩ = some (.int .i64 c.r0) := cell_of_row _ _ 3 _ _ _ hx
  have c4 : w4.cell? ⟨w.heap.size, 4, none⟩ = some (.int .i64 c.r1) := cell_of_row _ _ 4 _ _ _ hx
  have c5 : w4.cell? ⟨w.heap.size, 5, none⟩ = some (.int .i64 c.r2) := cell_of_row _ _ 5 _ _ _ hx
  have c6 : w4.cell? ⟨w.heap.size, 6, none⟩ = some (.int .i64 c.r3) := cell_of_row _ _ 6 _ _ _ hx
  have c7 : w4.cell? ⟨w.heap.size, 7, none⟩ = some (.int .i64 c.r4) := cell_of_row _ _ 7 _ _ _ hx
  have c8 : w4.cell? ⟨w.heap.size, 8, none⟩ = some (.int .i64 c.r5) := cell_of_row _ _ 8 _ _ _ hx
  have c9 : w4.cell? ⟨w.heap.size, 9, none⟩ = some (.int .i64 c.r6) := cell_of_row _ _ 9 _ _ _ hx
  have c10 : w4.cell? ⟨w.heap.size, 10, none⟩ = some (.int .i64 c.r7) := cell_of_row _ _ 10 _ _ _ hx
  have c11 : w4.cell? ⟨w.heap.size, 11, none⟩ = some (.int .i64 c.r8) := cell_of_row _ _ 11 _ _ _ hx
  have c12 : w4.cell? ⟨w.heap.size, 12, none⟩ = some (.int .i64 c.r9) := cell_of_row _ _ 12 _ _ _ hx
  have c13 : w4.cell? ⟨w.heap.size, 13, none⟩ = some (.int .i64 c.ra) := cell_of_row _ _ 13 _ _ _ hx
  have c14 : w4.cell? ⟨w.heap.size, 14, none⟩ = some (.int .i64 c.rb) := cell_of_row _ _ 14 _ _ _ hx
  have HX4 := Lib.hid hx
  clear hx
  go_wp2_with fail
  refine (done_any c core x _).mono ?_
  rintro e w5 ⟨rfl, hb⟩
  rw [I2.out]
  have hx : w5.heap[w.heap.size]? = some (.cells (cfgA c) 27 (0, 0)) := by
    rw [hb.block _ (World.block_lt_of_cell? _ _ c0)]
    exact HX4.out
  have HB5 := Lib.hid (HB4.out.trans (hb.mono HB4.out.size))
  clear hb c0 c1 c2 c3 c4 c5 c6 c7 c8 c9 c10 c11 c12 c13 c14
  have c0 : w5.cell? ⟨w.heap.size, 0, none⟩ = some (.int .i64 c.n) := cell_of_row _ _ 0 _ _ _ hx
  have c1 : w5.cell? ⟨w.heap.size, 1, none⟩ = some (.int .i64 c.s) := cell_of_row _ _ 1 _ _ _ hx
  have c2 : w5.cell? ⟨w.heap.size, 2, none⟩ = some (.int .i64 c.t) := cell_of_row _ _ 2 _ _ _ hx
  have c3 : w5.cell? ⟨w.heap.size, 3, none⟩ = some (.int .i64 c.r0) := cell_of_row _ _ 3 _ _ _ hx
  have c4 : w5.cell? ⟨w.heap.size, 4, none⟩ = some (.int .i64 c.r1) := cell_of_row _ _ 4 _ _ _ hx
  have c5 : w5.cell? ⟨w.heap.size, 5, none⟩ = some (.int .i64 c.r2) := cell_of_row _ _ 5 _ _ _ hx
  have c6 : w5.cell? ⟨w.heap.size, 6, none⟩ = some (.int .i64 c.r3) := cell_of_row _ _ 6 _ _ _ hx
  have c7 : w5.cell? ⟨w.heap.size, 7, none⟩ = some (.int .i64 c.r4) := cell_of_row _ _ 7 _ _ _ hx
  have c8 : w5.cell? ⟨w.heap.size, 8, none⟩ = some (.int .i64 c.r5) := cell_of_row _ _ 8 _ _ _ hx
  have c9 : w5.cell? ⟨w.heap.size, 9, none⟩ = some (.int .i64 c.r6) := cell_of_row _ _ 9 _ _ _ hx
  have c10 : w5.cell? ⟨w.heap.size, 10, none⟩ = some (.int .i64 c.r7) := cell_of_row _ _ 10 _ _ _ hx
  have c11 : w5.cell? ⟨w.heap.size, 11, none⟩ = some (.int .i64 c.r8) := cell_of_row _ _ 11 _ _ _ hx
  have c12 : w5.cell? ⟨w.heap.size, 12, none⟩ = some (.int .i64 c.r9) := cell_of_row _ _ 12 _ _ _ hx
  have c13 : w5.cell? ⟨w.heap.size, 13, none⟩ = some (.int .i64 c.ra) := cell_of_row _ _ 13 _ _ _ hx
  have c14 : w5.cell? ⟨w.heap.size, 14, none⟩ = some (.int .i64 c.rb) := cell_of_row _ _ 14 _ _ _ hx
  have HX5 := Lib.hid hx
  clear hx
  go_wp2_with fail
  refine (bnd_any c core x x _).mono ?_
  rintro e w6 ⟨rfl, hb⟩
  rw [I3.out]
  have HB6 := Lib.hid (HB5.out.trans (hb.mono HB5.out.size))
  clear hb
  go_wp2_with fail
  go_ret
  go_light
  exact ⟨rfl, HB6.out⟩

set_option maxHeartbeats 2000000 in
set_option maxRecDepth 1000000 in
theorem ref_c4 (c : Cfg) (core x : Int) (w : World) (hv : vld c = true) (hx0 : 0 ≤ x) (hx1 : x ≤ 1099511627776) (h0 : ¬ core < 0) (h1 : ¬ c.n ≤ core) (h2 : ¬ x > 100000) : Calls Try.prog 9 #[cfgV c, .int .i64 core, .int .i64 x] w (TrvEnd w) := by
  have HU := Lib.hid hv
  go_enter Try.func9, Try.ntmps9
  clear hv
  go_wp2_with fail
  refine (awake_any _).mono ?_
  rintro e w1 ⟨rfl, hb⟩
  have hx : w1.heap[w.heap.size]? = some (.cells (cfgA c) 27 (0, 0)) := by
    rw [hb.block _ (by simp)]
    exact heap_alloc_new w _
  have HB1 := Lib.hid (((Below.refl _ _).alloc (Nat.le_refl _) _).trans (hb.mono (by simp)))
  have c0 : w1.cell? ⟨w.heap.size, 0, none⟩ = some (.int .i64 c.n) := cell_of_row _ _ 0 _ _ _ hx
  have c1 : w1.cell? ⟨w.heap.size, 1, none⟩ = some (.int .i64 c.s) := cell_of_row _ _ 1 _ _ _ hx
  have c2 : w1.cell? ⟨w.heap.size, 2, none⟩ = some (.int .i64 c.t) := cell_of_row _ _ 2 _ _ _ hx
  have c3 : w1.cell? ⟨w.heap.size, 3, none⟩ = some (.int .i64 c.r0) := cell_of_row _ _ 3 _ _ _ hx
  have c4 : w1.cell? ⟨w.heap.size, 4, none⟩ = some (.int .i64 c.r1) := cell_of_row _ _ 4 _ _ _ hx
  have c5 : w1.cell? ⟨w.heap.size, 5, none⟩ = some (.int .i64 c.r2) := cell_of_row _ _ 5 _ _ _ hx
  have c6 : w1.cell? ⟨w.heap.size, 6, none⟩ = some (.int .i64 c.r3) := cell_of_row _ _ 6 _ _ _ hx
  have c7 : w1.cell? ⟨w.heap.size, 7, none⟩ = some (.int .i64 c.r4) := cell_of_row _ _ 7 _ _ _ hx
  have c8 : w1.cell? ⟨w.heap.size, 8, none⟩ = some (.int .i64 c.r5) := cell_of_row _ _ 8 _ _ _ hx
  have c9 : w1.cell? ⟨w.heap.size, 9, none⟩ = some (.int .i64 c.r6) := cell_of_row _ _ 9 _ _ _ hx
  have c10 : w1.cell? ⟨w.heap.size, 10, none⟩ = some (.int .i64 c.r7) := cell_of_row _ _ 10 _ _ _ hx
  have c11 : w1.cell? ⟨w.heap.size, 11, none⟩ = some (.int .i64 c.r8) := cell_of_row _ _ 11 _ _ _ hx
  have c12 : w1.cell? ⟨w.heap.size, 12, none⟩ = some (.int .i64 c.r9) := cell_of_row _ _ 12 _ _ _ hx
  have c13 : w1.cell? ⟨w.heap.size, 13, none⟩ = some (.int .i64 c.ra) := cell_of_row _ _ 13 _ _ _ hx
  have c14 : w1.cell? ⟨w.heap.size, 14, none⟩ = some (.int .i64 c.rb) := cell_of_row _ _ 14 _ _ _ hx
  have HX1 := Lib.hid hx
  clear hb hx
  go_wp2_with fail
  refine (valid_any c _).mono ?_
  rintro e w2 ⟨rfl, hb⟩
  rw [HU.out]
  have hx : w2.heap[w.heap.size]? = some (.cells (cfgA c) 27 (0, 0)) := by
    rw [hb.block _ (World.block_lt_of_cell? _ _ c0)]
    exact HX1.out
  have HB2 := Lib.hid (HB1.out.trans (hb.mono HB1.out.size))
  clear hb c0 c1 c2 c3 c4 c5 c6 c7 c8 c9 c10 c11 c12 c13 c14
  have c0 : w2.cell? ⟨w.heap.size, 0, none⟩ = some (.int .i64 c.n) := cell_of_row _ _ 0 _ _ _ hx
  have c1 : w2.cell? ⟨w.heap.size, 1, none⟩ = some (.int .i64 c.s) := cell_of_row _ _ 1 _ _ _ hx
  have c2 : w2.cell? ⟨w.heap.size, 2, none⟩ = some (.int .i64 c.t) := cell_of_row _ _ 2 _ _ _ hx
  have c3 : w2.cell? ⟨w.heap.size, 3, none⟩ = some (.int .i64 c.r0) := cell_of_row _ _ 3 _ _ _ hx
  have c4 : w2.cell? ⟨w.heap.size, 4, none⟩ = some (.int .i64 c.r1) := cell_of_row _ _ 4 _ _ _ hx
  have c5 : w2.cell? ⟨w.heap.size, 5, none⟩ = some (.int .i64 c.r2) := cell_of_row _ _ 5 _ _ _ hx
  have c6 : w2.cell? ⟨w.heap.size, 6, none⟩ = some (.int .i64 c.r3) := cell_of_row _ _ 6 _ _ _ hx
  have c7 : w2.cell? ⟨w.heap.size, 7, none⟩ = some (.int .i64 c.r4) := cell_of_row _ _ 7 _ _ _ hx
  have c8 : w2.cell? ⟨w.heap.size, 8, none⟩ = some (.int .i64 c.r5) := cell_of_row _ _ 8 _ _ _ hx
  have c9 : w2.cell? ⟨w.heap.size, 9, none⟩ = some (.int .i64 c.r6) := cell_of_row _ _ 9 _ _ _ hx
  have c10 : w2.cell? ⟨w.heap.size, 10, none⟩ = some (.int .i64 c.r7) := cell_of_row _ _ 10 _ _ _ hx
  have c11 : w2.cell? ⟨w.heap.size, 11, none⟩ = some (.int .i64 c.r8) := cell_of_row _ _ 11 _ _ _ hx
  have c12 : w2.cell? ⟨w.heap.size, 12, none⟩ = some (.int .i64 c.r9) := cell_of_row _ _ 12 _ _ _ hx
  have c13 : w2.cell? ⟨w.heap.size, 13, none⟩ = some (.int .i64 c.ra) := cell_of_row _ _ 13 _ _ _ hx
  have c14 : w2.cell? ⟨w.heap.size, 14, none⟩ = some (.int .i64 c.rb) := cell_of_row _ _ 14 _ _ _ hx
  have HX2 := Lib.hid hx
  clear hx
  have io := own_pos (c := c) HU.out hx0 hx1
  obtain ⟨zo, eo⟩ : ∃ z, ownr c x = z := ⟨_, rfl⟩
  rw [eo] at io
  have Io := Lib.hid eo
  clear eo
  have mo : ¬ zo = -1 := by omega
  have bo : (zo == -1) = false := by simpa using mo
  go_wp2_with fail
  refine (owner_any c x _).mono ?_
  rintro e w3 ⟨rfl, hb⟩
  rw [Io.out]
  have hx : w3.heap[w.heap.size]? = some (.cells (cfgA c) 27 (0, 0)) := by
    rw [hb.block _ (World.block_lt_of_cell? _ _ c0)]
    exact HX2.out
  have HB3 := Lib.hid (HB2.out.trans (hb.mono HB2.out.size))
  clear hb c0 c1 c2 c3 c4 c5 c6 c7 c8 c9 c10 c11 c12 c13 c14
  have c0 : w3.cell? ⟨w.heap.size, 0, none⟩ = some (.int .i64 c.n) := cell_of_row _ _ 0 _ _ _ hx
  have c1 : w3.cell? ⟨w.heap.size, 1, none⟩ = some (.int .i64 c.s) := cell_of_row _ _ 1 _ _ _ hx
  have c2 : w3.cell? ⟨w.heap.size, 2, none⟩ = some (.int .i64 c.t) := cell_of_row _ _ 2 _ _ _ hx
  have c3 : w3.cell? ⟨w.heap.size, 3, none⟩ = some (.int .i64 c.r0) := cell_of_row _ _ 3 _ _ _ hx
  have c4 : w3.cell? ⟨w.heap.size, 4, none⟩ = some (.int .i64 c.r1) := cell_of_row _ _ 4 _ _ _ hx
  have c5 : w3.cell? ⟨w.heap.size, 5, none⟩ = some (.int .i64 c.r2) := cell_of_row _ _ 5 _ _ _ hx
  have c6 : w3.cell? ⟨w.heap.size, 6, none⟩ = some (.int .i64 c.r3) := cell_of_row _ _ 6 _ _ _ hx
  have c7 : w3.cell? ⟨w.heap.size, 7, none⟩ = some (.int .i64 c.r4) := cell_of_row _ _ 7 _ _ _ hx
  have c8 : w3.cell? ⟨w.heap.size, 8, none⟩ = some (.int .i64 c.r5) := cell_of_row _ _ 8 _ _ _ hx
  have c9 : w3.cell? ⟨w.heap.size, 9, none⟩ = some (.int .i64 c.r6) := cell_of_row _ _ 9 _ _ _ hx
  have c10 : w3.cell? ⟨w.heap.size, 10, none⟩ = some (.int .i64 c.r7) := cell_of_row _ _ 10 _ _ _ hx
  have c11 : w3.cell? ⟨w.heap.size, 11, none⟩ = some (.int .i64 c.r8) := cell_of_row _ _ 11 _ _ _ hx
  have c12 : w3.cell? ⟨w.heap.size, 12, none⟩ = some (.int .i64 c.r9) := cell_of_row _ _ 12 _ _ _ hx
  have c13 : w3.cell? ⟨w.heap.size, 13, none⟩ = some (.int .i64 c.ra) := cell_of_row _ _ 13 _ _ _ hx
  have c14 : w3.cell? ⟨w.heap.size, 14, none⟩ = some (.int .i64 c.rb) := cell_of_row _ _ 14 _ _ _ hx
  have HX3 := Lib.hid hx
  clear hx
  obtain ⟨i1, i2, i3, i4⟩ := pos4 (c := c) (core := core) (x := x) (by simp [use, HU.out, okc]; omega)
  obtain ⟨z1, e1⟩ : ∃ z, strt c core x = z := ⟨_, rfl⟩
  rw [e1] at i1
  have I1 := Lib.hid e1
  clear e1
  have m1 : ¬ z1 = -1 := by omega
  have b1 : (z1 == -1) = false := by simpa using m1
  obtain ⟨z2, e2⟩ : ∃ z, don c core x = z := ⟨_, rfl⟩
  rw [e2] at i2
  have I2 := Lib.hid e2
  clear e2
  have m2 : ¬ z2 = -1 := by omega
  have b2 : (z2 == -1) = false := by simpa using m2
  obtain ⟨z3, e3⟩ : ∃ z, bnd c core x x = z := ⟨_, rfl⟩
  rw [e3] at i3
  have I3 := Lib.hid e3
  clear e3
  have m3 : ¬ z3 = -1 := by omega
  have b3 : (z3 == -1) = false := by simpa using m3
  obtain ⟨z4, e4⟩ : ∃ z, bnd c core 0 x = z := ⟨_, rfl⟩
  rw [e4] at i4
  have I4 := Lib.hid e4
  clear e4
  have m4 : ¬ z4 = -1 := by omega
  have b4 : (z4 == -1) = false := by simpa using m4
  go_wp2_with fail
  refine (start_any c core x _).mono ?_
  rintro e w4 ⟨rfl, hb⟩
  rw [I1.out]
  have hx : w4.heap[w.heap.size]? = some (.cells (cfgA c) 27 (0, 0)) := by
    rw [hb.block _ (World.block_lt_of_cell? _ _ c0)]
    exact HX3.out
  have HB4 := Lib.hid (HB3.out.trans (hb.mono HB3.out.size))
  clear hb c0 c1 c2 c3 c4 c5 c6 c7 c8 c9 c10 c11 c12 c13 c14
  have c0 : w4.cell? ⟨w.heap.size, 0, none⟩ = some (.int .i64 c.n) := cell_of_row _ _ 0 _ _ _ hx
  have c1 : w4.cell? ⟨w.heap.size, 1, none⟩ = some (.int .i64 c.s) := cell_of_row _ _ 1 _ _ _ hx
  have c2 : w4.cell? ⟨w.heap.size, 2, none⟩ = some (.int .i64 c.t) := cell_of_row _ _ 2 _ _ _ hx
  have c3 : w4.cell? ⟨w.heap.size, 3, none⟩ = some (.int .i64 c.r0) := cell_of_row _ _ 3 _ _ _ hx
  have c4 : w4.cell? ⟨w.heap.size, 4, none⟩ = some (.int .i64 c.r1) := cell_of_row _ _ 4 _ _ _ hx
  have c5 : w4.cell? ⟨w.heap.size, 5, none⟩ = some (.int .i64 c.r2) := cell_of_row _ _ 5 _ _ _ hx
  have c6 : w4.cell? ⟨w.heap.size, 6, none⟩ = some (.int .i64 c.r3) := cell_of_row _ _ 6 _ _ _ hx
  have c7 : w4.cell? ⟨w.heap.size, 7, none⟩ = some (.int .i64 c.r4) := cell_of_row _ _ 7 _ _ _ hx
  have c8 : w4.cell? ⟨w.heap.size, 8, none⟩ = some (.int .i64 c.r5) := cell_of_row _ _ 8 _ _ _ hx
  have c9 : w4.cell? ⟨w.heap.size, 9, none⟩ = some (.int .i64 c.r6) := cell_of_row _ _ 9 _ _ _ hx
  have c10 : w4.cell? ⟨w.heap.size, 10, none⟩ = some (.int .i64 c.r7) := cell_of_row _ _ 10 _ _ _ hx
  have c11 : w4.cell? ⟨w.heap.size, 11, none⟩ = some (.int .i64 c.r8) := cell_of_row _ _ 11 _ _ _ hx
  have c12 : w4.cell? ⟨w.heap.size, 12, none⟩ = some (.int .i64 c.r9) := cell_of_row _ _ 12 _ _ _ hx
  have c13 : w4.cell? ⟨w.heap.size, 13, none⟩ = some (.int .i64 c.ra) := cell_of_row _ _ 13 _ _ _ hx
  have c14 : w4.cell? ⟨w.heap.size, 14, none⟩ = some (.int .i64 c.rb) := cell_of_row _ _ 14 _ _ _ hx
  have HX4 := Lib.hid hx
  clear hx
  go_wp2_with fail
  refine (done_any c core x _).mono ?_
  rintro e w5 ⟨rfl, hb⟩
  rw [I2.out]
  have hx : w5.heap[w.heap.size]? = some (.cells (cfgA c) 27 (0, 0)) := by
    rw [hb.block _ (World.block_lt_of_cell? _ _ c0)]
    exact HX4.out
  have HB5 := Lib.hid (HB4.out.trans (hb.mono HB4.out.size))
  clear hb c0 c1 c2 c3 c4 c5 c6 c7 c8 c9 c10 c11 c12 c13 c14
  have c0 : w5.cell? ⟨w.heap.size, 0, none⟩ = some (.int .i64 c.n) := cell_of_row _ _ 0 _ _ _ hx
  have c1 : w5.cell? ⟨w.heap.size, 1, none⟩ = some (.int .i64 c.s) := cell_of_row _ _ 1 _ _ _ hx
  have c2 : w5.cell? ⟨w.heap.size, 2, none⟩ = some (.int .i64 c.t) := cell_of_row _ _ 2 _ _ _ hx
  have c3 : w5.cell? ⟨w.heap.size, 3, none⟩ = some (.int .i64 c.r0) := cell_of_row _ _ 3 _ _ _ hx
  have c4 : w5.cell? ⟨w.heap.size, 4, none⟩ = some (.int .i64 c.r1) := cell_of_row _ _ 4 _ _ _ hx
  have c5 : w5.cell? ⟨w.heap.size, 5, none⟩ = some (.int .i64 c.r2) := cell_of_row _ _ 5 _ _ _ hx
  have c6 : w5.cell? ⟨w.heap.size, 6, none⟩ = some (.int .i64 c.r3) := cell_of_row _ _ 6 _ _ _ hx
  have c7 : w5.cell? ⟨w.heap.size, 7, none⟩ = some (.int .i64 c.r4) := cell_of_row _ _ 7 _ _ _ hx
  have c8 : w5.cell? ⟨w.heap.size, 8, none⟩ = some (.int .i64 c.r5) := cell_of_row _ _ 8 _ _ _ hx
  have c9 : w5.cell? ⟨w.heap.size, 9, none⟩ = some (.int .i64 c.r6) := cell_of_row _ _ 9 _ _ _ hx
  have c10 : w5.cell? ⟨w.heap.size, 10, none⟩ = some (.int .i64 c.r7) := cell_of_row _ _ 10 _ _ _ hx
  have c11 : w5.cell? ⟨w.heap.size, 11, none⟩ = some (.int .i64 c.r8) := cell_of_row _ _ 11 _ _ _ hx
  have c12 : w5.cell? ⟨w.heap.size, 12, none⟩ = some (.int .i64 c.r9) := cell_of_row _ _ 12 _ _ _ hx
  have c13 : w5.cell? ⟨w.heap.size, 13, none⟩ = some (.int .i64 c.ra) := cell_of_row _ _ 13 _ _ _ hx
  have c14 : w5.cell? ⟨w.heap.size, 14, none⟩ = some (.int .i64 c.rb) := cell_of_row _ _ 14 _ _ _ hx
  have HX5 := Lib.hid hx
  clear hx
  go_wp2_with fail
  refine (bnd_any c core x x _).mono ?_
  rintro e w6 ⟨rfl, hb⟩
  rw [I3.out]
  have hx : w6.heap[w.heap.size]? = some (.cells (cfgA c) 27 (0, 0)) := by
    rw [hb.block _ (World.block_lt_of_cell? _ _ c0)]
    exact HX5.out
  have HB6 := Lib.hid (HB5.out.trans (hb.mono HB5.out.size))
  clear hb c0 c1 c2 c3 c4 c5 c6 c7 c8 c9 c10 c11 c12 c13 c14
  have c0 : w6.cell? ⟨w.heap.size, 0, none⟩ = some (.int .i64 c.n) := cell_of_row _ _ 0 _ _ _ hx
  have c1 : w6.cell? ⟨w.heap.size, 1, none⟩ = some (.int .i64 c.s) := cell_of_row _ _ 1 _ _ _ hx
  have c2 : w6.cell? ⟨w.heap.size, 2, none⟩ = some (.int .i64 c.t) := cell_of_row _ _ 2 _ _ _ hx
  have c3 : w6.cell? ⟨w.heap.size, 3, none⟩ = some (.int .i64 c.r0) := cell_of_row _ _ 3 _ _ _ hx
  have c4 : w6.cell? ⟨w.heap.size, 4, none⟩ = some (.int .i64 c.r1) := cell_of_row _ _ 4 _ _ _ hx
  have c5 : w6.cell? ⟨w.heap.size, 5, none⟩ = some (.int .i64 c.r2) := cell_of_row _ _ 5 _ _ _ hx
  have c6 : w6.cell? ⟨w.heap.size, 6, none⟩ = some (.int .i64 c.r3) := cell_of_row _ _ 6 _ _ _ hx
  have c7 : w6.cell? ⟨w.heap.size, 7, none⟩ = some (.int .i64 c.r4) := cell_of_row _ _ 7 _ _ _ hx
  have c8 : w6.cell? ⟨w.heap.size, 8, none⟩ = some (.int .i64 c.r5) := cell_of_row _ _ 8 _ _ _ hx
  have c9 : w6.cell? ⟨w.heap.size, 9, none⟩ = some (.int .i64 c.r6) := cell_of_row _ _ 9 _ _ _ hx
  have c10 : w6.cell? ⟨w.heap.size, 10, none⟩ = some (.int .i64 c.r7) := cell_of_row _ _ 10 _ _ _ hx
  have c11 : w6.cell? ⟨w.heap.size, 11, none⟩ = some (.int .i64 c.r8) := cell_of_row _ _ 11 _ _ _ hx
  have c12 : w6.cell? ⟨w.heap.size, 12, none⟩ = some (.int .i64 c.r9) := cell_of_row _ _ 12 _ _ _ hx
  have c13 : w6.cell? ⟨w.heap.size, 13, none⟩ = some (.int .i64 c.ra) := cell_of_row _ _ 13 _ _ _ hx
  have c14 : w6.cell? ⟨w.heap.size, 14, none⟩ = some (.int .i64 c.rb) := cell_of_row _ _ 14 _ _ _ hx
  have HX6 := Lib.hid hx
  clear hx
  go_wp2_with fail
  refine (bnd_any c core 0 x _).mono ?_
  rintro e w7 ⟨rfl, hb⟩
  rw [I4.out]
  have HB7 := Lib.hid (HB6.out.trans (hb.mono HB6.out.size))
  clear hb
  go_wp2_with fail
  go_ret
  go_light
  exact ⟨rfl, HB7.out⟩

end Go.Proofs.Ytjdkaagkaambkab
