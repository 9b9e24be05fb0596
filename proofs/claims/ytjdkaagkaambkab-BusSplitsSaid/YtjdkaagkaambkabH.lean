/- The bus: the examples of the chapter hold. -/
import Derived.Test.YtjdkaagkaambkabF
import Derived.Test.YtjdkaagkaambkabG
namespace Go.Proofs.Ytjdkaagkaambkab
open Go.RowKit Go.Proofs

abbrev exC : Cfg := ⟨2, 5, 2, 0, 0, 0, 0, 0, 0, 0, 0, 0, 0, 0, 0⟩
theorem ex_s1 : strt exC 1 0 = 5 := by decide +kernel
theorem ex_s2 : strt exC 1 8 = 8 := by decide +kernel
theorem ex_s3 : strt exC 1 9 = 15 := by decide +kernel
theorem ex_m : mwt exC = 6 := by decide +kernel
theorem ex_t : mtr exC = 8 := by decide +kernel
theorem ex_b : bnd exC 0 0 20 = 4 := by decide +kernel

set_option maxHeartbeats 2000000 in
set_option maxRecDepth 1000000 in
theorem awake_any (w : World) : Calls Try.prog 11 #[] w fun e w' => e = .returned (.bool true) ∧ Below w.heap.size w w' := by
  go_enter Try.func11, Try.ntmps11
  go_wp2_with fail
  have HB0 : Hid (Below w.heap.size w (w.alloc (.cells (cfgA exC) 27))) := Lib.hid ((Below.refl _ _).alloc (Nat.le_refl _) _)
  have HX0 : Hid ((w.alloc (.cells (cfgA exC) 27)).heap[w.heap.size]? = some (.cells (cfgA exC) 27 (0, 0))) := Lib.hid (heap_alloc_new w _)
  have hlt : w.heap.size < (w.alloc (.cells (cfgA exC) 27)).heap.size := by simp
  have HS0 := Lib.hid hlt
  clear hlt
  refine (start_any exC 1 0 _).mono ?_
  rintro e w1 ⟨rfl, hb⟩
  rw [ex_s1]
  have HB1 := Lib.hid (HB0.out.trans (hb.mono HB0.out.size))
  have hx1 := hb.block _ HS0.out
  rw [HX0.out] at hx1
  have HS1 := Lib.hid (Nat.lt_of_lt_of_le HS0.out hb.size)
  have c0 : w1.cell? ⟨w.heap.size, 0, none⟩ = some (.int .i64 2) := cell_of_row _ _ 0 _ _ _ hx1
  have c1 : w1.cell? ⟨w.heap.size, 1, none⟩ = some (.int .i64 5) := cell_of_row _ _ 1 _ _ _ hx1
  have c2 : w1.cell? ⟨w.heap.size, 2, none⟩ = some (.int .i64 2) := cell_of_row _ _ 2 _ _ _ hx1
  have c3 : w1.cell? ⟨w.heap.size, 3, none⟩ = some (.int .i64 0) := cell_of_row _ _ 3 _ _ _ hx1
  have c4 : w1.cell? ⟨w.heap.size, 4, none⟩ = some (.int .i64 0) := cell_of_row _ _ 4 _ _ _ hx1
  have c5 : w1.cell? ⟨w.heap.size, 5, none⟩ = some (.int .i64 0) := cell_of_row _ _ 5 _ _ _ hx1
  have c6 : w1.cell? ⟨w.heap.size, 6, none⟩ = some (.int .i64 0) := cell_of_row _ _ 6 _ _ _ hx1
  have c7 : w1.cell? ⟨w.heap.size, 7, none⟩ = some (.int .i64 0) := cell_of_row _ _ 7 _ _ _ hx1
  have c8 : w1.cell? ⟨w.heap.size, 8, none⟩ = some (.int .i64 0) := cell_of_row _ _ 8 _ _ _ hx1
  have c9 : w1.cell? ⟨w.heap.size, 9, none⟩ = some (.int .i64 0) := cell_of_row _ _ 9 _ _ _ hx1
  have c10 : w1.cell? ⟨w.heap.size, 10, none⟩ = some (.int .i64 0) := cell_of_row _ _ 10 _ _ _ hx1
  have c11 : w1.cell? ⟨w.heap.size, 11, none⟩ = some (.int .i64 0) := cell_of_row _ _ 11 _ _ _ hx1
  have c12 : w1.cell? ⟨w.heap.size, 12, none⟩ = some (.int .i64 0) := cell_of_row _ _ 12 _ _ _ hx1
  have c13 : w1.cell? ⟨w.heap.size, 13, none⟩ = some (.int .i64 0) := cell_of_row _ _ 13 _ _ _ hx1
  have c14 : w1.cell? ⟨w.heap.size, 14, none⟩ = some (.int .i64 0) := cell_of_row _ _ 14 _ _ _ hx1
  have HX1 := Lib.hid hx1
  clear hb hx1
  go_wp2_with fail
  clear c0 c1 c2 c3 c4 c5 c6 c7 c8 c9 c10 c11 c12 c13 c14
  refine (start_any exC 1 8 _).mono ?_
  rintro e w2 ⟨rfl, hb⟩
  rw [ex_s2]
  have HB2 := Lib.hid (HB1.out.trans (hb.mono HB1.out.size))
  have hx2 := hb.block _ HS1.out
  rw [HX1.out] at hx2
  have HS2 := Lib.hid (Nat.lt_of_lt_of_le HS1.out hb.size)
  have c0 : w2.cell? ⟨w.heap.size, 0, none⟩ = some (.int .i64 2) := cell_of_row _ _ 0 _ _ _ hx2
  have c1 : w2.cell? ⟨w.heap.size, 1, none⟩ = some (.int .i64 5) := cell_of_row _ _ 1 _ _ _ hx2
  have c2 : w2.cell? ⟨w.heap.size, 2, none⟩ = some (.int .i64 2) := cell_of_row _ _ 2 _ _ _ hx2
  have c3 : w2.cell? ⟨w.heap.size, 3, none⟩ = some (.int .i64 0) := cell_of_row _ _ 3 _ _ _ hx2
  have c4 : w2.cell? ⟨w.heap.size, 4, none⟩ = some (.int .i64 0) := cell_of_row _ _ 4 _ _ _ hx2
  have c5 : w2.cell? ⟨w.heap.size, 5, none⟩ = some (.int .i64 0) := cell_of_row _ _ 5 _ _ _ hx2
  have c6 : w2.cell? ⟨w.heap.size, 6, none⟩ = some (.int .i64 0) := cell_of_row _ _ 6 _ _ _ hx2
  have c7 : w2.cell? ⟨w.heap.size, 7, none⟩ = some (.int .i64 0) := cell_of_row _ _ 7 _ _ _ hx2
  have c8 : w2.cell? ⟨w.heap.size, 8, none⟩ = some (.int .i64 0) := cell_of_row _ _ 8 _ _ _ hx2
  have c9 : w2.cell? ⟨w.heap.size, 9, none⟩ = some (.int .i64 0) := cell_of_row _ _ 9 _ _ _ hx2
  have c10 : w2.cell? ⟨w.heap.size, 10, none⟩ = some (.int .i64 0) := cell_of_row _ _ 10 _ _ _ hx2
  have c11 : w2.cell? ⟨w.heap.size, 11, none⟩ = some (.int .i64 0) := cell_of_row _ _ 11 _ _ _ hx2
  have c12 : w2.cell? ⟨w.heap.size, 12, none⟩ = some (.int .i64 0) := cell_of_row _ _ 12 _ _ _ hx2
  have c13 : w2.cell? ⟨w.heap.size, 13, none⟩ = some (.int .i64 0) := cell_of_row _ _ 13 _ _ _ hx2
  have c14 : w2.cell? ⟨w.heap.size, 14, none⟩ = some (.int .i64 0) := cell_of_row _ _ 14 _ _ _ hx2
  have HX2 := Lib.hid hx2
  clear hb hx2
  go_wp2_with fail
  clear c0 c1 c2 c3 c4 c5 c6 c7 c8 c9 c10 c11 c12 c13 c14
  refine (start_any exC 1 9 _).mono ?_
  rintro e w3 ⟨rfl, hb⟩
  rw [ex_s3]
  have HB3 := Lib.hid (HB2.out.trans (hb.mono HB2.out.size))
  have hx3 := hb.block _ HS2.out
  rw [HX2.out] at hx3
  have HS3 := Lib.hid (Nat.lt_of_lt_of_le HS2.out hb.size)
  have c0 : w3.cell? ⟨w.heap.size, 0, none⟩ = some (.int .i64 2) := cell_of_row _ _ 0 _ _ _ hx3
  have c1 : w3.cell? ⟨w.heap.size, 1, none⟩ = some (.int .i64 5) := cell_of_row _ _ 1 _ _ _ hx3
  have c2 : w3.cell? ⟨w.heap.size, 2, none⟩ = some (.int .i64 2) := cell_of_row _ _ 2 _ _ _ hx3
  have c3 : w3.cell? ⟨w.heap.size, 3, none⟩ = some (.int .i64 0) := cell_of_row _ _ 3 _ _ _ hx3
  have c4 : w3.cell? ⟨w.heap.size, 4, none⟩ = some (.int .i64 0) := cell_of_row _ _ 4 _ _ _ hx3
  have c5 : w3.cell? ⟨w.heap.size, 5, none⟩ = some (.int .i64 0) := cell_of_row _ _ 5 _ _ _ hx3
  have c6 : w3.cell? ⟨w.heap.size, 6, none⟩ = some (.int .i64 0) := cell_of_row _ _ 6 _ _ _ hx3
  have c7 : w3.cell? ⟨w.heap.size, 7, none⟩ = some (.int .i64 0) := cell_of_row _ _ 7 _ _ _ hx3
  have c8 : w3.cell? ⟨w.heap.size, 8, none⟩ = some (.int .i64 0) := cell_of_row _ _ 8 _ _ _ hx3
  have c9 : w3.cell? ⟨w.heap.size, 9, none⟩ = some (.int .i64 0) := cell_of_row _ _ 9 _ _ _ hx3
  have c10 : w3.cell? ⟨w.heap.size, 10, none⟩ = some (.int .i64 0) := cell_of_row _ _ 10 _ _ _ hx3
  have c11 : w3.cell? ⟨w.heap.size, 11, none⟩ = some (.int .i64 0) := cell_of_row _ _ 11 _ _ _ hx3
  have c12 : w3.cell? ⟨w.heap.size, 12, none⟩ = some (.int .i64 0) := cell_of_row _ _ 12 _ _ _ hx3
  have c13 : w3.cell? ⟨w.heap.size, 13, none⟩ = some (.int .i64 0) := cell_of_row _ _ 13 _ _ _ hx3
  have c14 : w3.cell? ⟨w.heap.size, 14, none⟩ = some (.int .i64 0) := cell_of_row _ _ 14 _ _ _ hx3
  have HX3 := Lib.hid hx3
  clear hb hx3
  go_wp2_with fail
  clear c0 c1 c2 c3 c4 c5 c6 c7 c8 c9 c10 c11 c12 c13 c14
  refine (maxwait_any exC _).mono ?_
  rintro e w4 ⟨rfl, hb⟩
  rw [ex_m]
  have HB4 := Lib.hid (HB3.out.trans (hb.mono HB3.out.size))
  have hx4 := hb.block _ HS3.out
  rw [HX3.out] at hx4
  have HS4 := Lib.hid (Nat.lt_of_lt_of_le HS3.out hb.size)
  have c0 : w4.cell? ⟨w.heap.size, 0, none⟩ = some (.int .i64 2) := cell_of_row _ _ 0 _ _ _ hx4
  have c1 : w4.cell? ⟨w.heap.size, 1, none⟩ = some (.int .i64 5) := cell_of_row _ _ 1 _ _ _ hx4
  have c2 : w4.cell? ⟨w.heap.size, 2, none⟩ = some (.int .i64 2) := cell_of_row _ _ 2 _ _ _ hx4
  have c3 : w4.cell? ⟨w.heap.size, 3, none⟩ = some (.int .i64 0) := cell_of_row _ _ 3 _ _ _ hx4
  have c4 : w4.cell? ⟨w.heap.size, 4, none⟩ = some (.int .i64 0) := cell_of_row _ _ 4 _ _ _ hx4
  have c5 : w4.cell? ⟨w.heap.size, 5, none⟩ = some (.int .i64 0) := cell_of_row _ _ 5 _ _ _ hx4
  have c6 : w4.cell? ⟨w.heap.size, 6, none⟩ = some (.int .i64 0) := cell_of_row _ _ 6 _ _ _ hx4
  have c7 : w4.cell? ⟨w.heap.size, 7, none⟩ = some (.int .i64 0) := cell_of_row _ _ 7 _ _ _ hx4
  have c8 : w4.cell? ⟨w.heap.size, 8, none⟩ = some (.int .i64 0) := cell_of_row _ _ 8 _ _ _ hx4
  have c9 : w4.cell? ⟨w.heap.size, 9, none⟩ = some (.int .i64 0) := cell_of_row _ _ 9 _ _ _ hx4
  have c10 : w4.cell? ⟨w.heap.size, 10, none⟩ = some (.int .i64 0) := cell_of_row _ _ 10 _ _ _ hx4
  have c11 : w4.cell? ⟨w.heap.size, 11, none⟩ = some (.int .i64 0) := cell_of_row _ _ 11 _ _ _ hx4
  have c12 : w4.cell? ⟨w.heap.size, 12, none⟩ = some (.int .i64 0) := cell_of_row _ _ 12 _ _ _ hx4
  have c13 : w4.cell? ⟨w.heap.size, 13, none⟩ = some (.int .i64 0) := cell_of_row _ _ 13 _ _ _ hx4
  have c14 : w4.cell? ⟨w.heap.size, 14, none⟩ = some (.int .i64 0) := cell_of_row _ _ 14 _ _ _ hx4
  have HX4 := Lib.hid hx4
  clear hb hx4
  go_wp2_with fail
  clear c0 c1 c2 c3 c4 c5 c6 c7 c8 c9 c10 c11 c12 c13 c14
  refine (maxtransfer_any exC _).mono ?_
  rintro e w5 ⟨rfl, hb⟩
  rw [ex_t]
  have HB5 := Lib.hid (HB4.out.trans (hb.mono HB4.out.size))
  have hx5 := hb.block _ HS4.out
  rw [HX4.out] at hx5
  have HS5 := Lib.hid (Nat.lt_of_lt_of_le HS4.out hb.size)
  have c0 : w5.cell? ⟨w.heap.size, 0, none⟩ = some (.int .i64 2) := cell_of_row _ _ 0 _ _ _ hx5
  have c1 : w5.cell? ⟨w.heap.size, 1, none⟩ = some (.int .i64 5) := cell_of_row _ _ 1 _ _ _ hx5
  have c2 : w5.cell? ⟨w.heap.size, 2, none⟩ = some (.int .i64 2) := cell_of_row _ _ 2 _ _ _ hx5
  have c3 : w5.cell? ⟨w.heap.size, 3, none⟩ = some (.int .i64 0) := cell_of_row _ _ 3 _ _ _ hx5
  have c4 : w5.cell? ⟨w.heap.size, 4, none⟩ = some (.int .i64 0) := cell_of_row _ _ 4 _ _ _ hx5
  have c5 : w5.cell? ⟨w.heap.size, 5, none⟩ = some (.int .i64 0) := cell_of_row _ _ 5 _ _ _ hx5
  have c6 : w5.cell? ⟨w.heap.size, 6, none⟩ = some (.int .i64 0) := cell_of_row _ _ 6 _ _ _ hx5
  have c7 : w5.cell? ⟨w.heap.size, 7, none⟩ = some (.int .i64 0) := cell_of_row _ _ 7 _ _ _ hx5
  have c8 : w5.cell? ⟨w.heap.size, 8, none⟩ = some (.int .i64 0) := cell_of_row _ _ 8 _ _ _ hx5
  have c9 : w5.cell? ⟨w.heap.size, 9, none⟩ = some (.int .i64 0) := cell_of_row _ _ 9 _ _ _ hx5
  have c10 : w5.cell? ⟨w.heap.size, 10, none⟩ = some (.int .i64 0) := cell_of_row _ _ 10 _ _ _ hx5
  have c11 : w5.cell? ⟨w.heap.size, 11, none⟩ = some (.int .i64 0) := cell_of_row _ _ 11 _ _ _ hx5
  have c12 : w5.cell? ⟨w.heap.size, 12, none⟩ = some (.int .i64 0) := cell_of_row _ _ 12 _ _ _ hx5
  have c13 : w5.cell? ⟨w.heap.size, 13, none⟩ = some (.int .i64 0) := cell_of_row _ _ 13 _ _ _ hx5
  have c14 : w5.cell? ⟨w.heap.size, 14, none⟩ = some (.int .i64 0) := cell_of_row _ _ 14 _ _ _ hx5
  have HX5 := Lib.hid hx5
  clear hb hx5
  go_wp2_with fail
  clear c0 c1 c2 c3 c4 c5 c6 c7 c8 c9 c10 c11 c12 c13 c14
  refine (bnd_any exC 0 0 20 _).mono ?_
  rintro e w6 ⟨rfl, hb⟩
  rw [ex_b]
  have HB6 := Lib.hid (HB5.out.trans (hb.mono HB5.out.size))
  have hx6 := hb.block _ HS5.out
  rw [HX5.out] at hx6
  have HS6 := Lib.hid (Nat.lt_of_lt_of_le HS5.out hb.size)
  have c0 : w6.cell? ⟨w.heap.size, 0, none⟩ = some (.int .i64 2) := cell_of_row _ _ 0 _ _ _ hx6
  have c1 : w6.cell? ⟨w.heap.size, 1, none⟩ = some (.int .i64 5) := cell_of_row _ _ 1 _ _ _ hx6
  have c2 : w6.cell? ⟨w.heap.size, 2, none⟩ = some (.int .i64 2) := cell_of_row _ _ 2 _ _ _ hx6
  have c3 : w6.cell? ⟨w.heap.size, 3, none⟩ = some (.int .i64 0) := cell_of_row _ _ 3 _ _ _ hx6
  have c4 : w6.cell? ⟨w.heap.size, 4, none⟩ = some (.int .i64 0) := cell_of_row _ _ 4 _ _ _ hx6
  have c5 : w6.cell? ⟨w.heap.size, 5, none⟩ = some (.int .i64 0) := cell_of_row _ _ 5 _ _ _ hx6
  have c6 : w6.cell? ⟨w.heap.size, 6, none⟩ = some (.int .i64 0) := cell_of_row _ _ 6 _ _ _ hx6
  have c7 : w6.cell? ⟨w.heap.size, 7, none⟩ = some (.int .i64 0) := cell_of_row _ _ 7 _ _ _ hx6
  have c8 : w6.cell? ⟨w.heap.size, 8, none⟩ = some (.int .i64 0) := cell_of_row _ _ 8 _ _ _ hx6
  have c9 : w6.cell? ⟨w.heap.size, 9, none⟩ = some (.int .i64 0) := cell_of_row _ _ 9 _ _ _ hx6
  have c10 : w6.cell? ⟨w.heap.size, 10, none⟩ = some (.int .i64 0) := cell_of_row _ _ 10 _ _ _ hx6
  have c11 : w6.cell? ⟨w.heap.size, 11, none⟩ = some (.int .i64 0) := cell_of_row _ _ 11 _ _ _ hx6
  have c12 : w6.cell? ⟨w.heap.size, 12, none⟩ = some (.int .i64 0) := cell_of_row _ _ 12 _ _ _ hx6
  have c13 : w6.cell? ⟨w.heap.size, 13, none⟩ = some (.int .i64 0) := cell_of_row _ _ 13 _ _ _ hx6
  have c14 : w6.cell? ⟨w.heap.size, 14, none⟩ = some (.int .i64 0) := cell_of_row _ _ 14 _ _ _ hx6
  have HX6 := Lib.hid hx6
  clear hb hx6
  go_wp2_with fail
  go_ret
  go_light
  exact ⟨rfl, HB6.out⟩
end Go.Proofs.Ytjdkaagkaambkab
