/- BusSplits: the walk. -/
import Derived.Test.YtjdkaagkaambkabY
namespace Go.Proofs.Ytjdkaagkaambkab
open Go.RowKit Go.Proofs

theorem bnd_range (c : Cfg) (core to_ : Int) (hv : vld c = true) (h0 : 0 ≤ core) (h1 : core < c.n) (ht : to_ ≤ 1099511627776) (m : Nat) : ∀ z : Int, 0 ≤ z → z ≤ to_ → to_ - z ≤ m → 0 ≤ bnd c core z to_ ∧ bnd c core z to_ ≤ to_ - z := by
  obtain ⟨n1, n4, t1, ts, s6⟩ := vld_n hv
  induction m with
  | zero =>
    intro z z0 hz hm
    rw [bnd_back c core z to_ hv h0 h1 (by omega) (by omega) (by omega)]
    omega
  | succ m ih =>
    intro z z0 hz hm
    by_cases he : strt0 c core z + c.t ≤ to_
    · have sb := (strt0_bounds c core z (use_ok hv h0 h1 z0 (by omega))).1
      rw [bnd_one c core z to_ hv h0 h1 z0 hz ht he]
      have := ih (strt0 c core z + c.t) (by omega) he (by omega)
      omega
    · rw [bnd_none c core z to_ hv h0 h1 z0 hz ht (by omega)]
      omega

set_option maxHeartbeats 2000000 in
set_option maxRecDepth 1000000 in
theorem spl_out (c : Cfg) (core x a b : Int) (w : World) (h : vld c = true → core < 0 ∨ c.n ≤ core) : Calls Try.prog 5 #[cfgV c, .int .i64 core, .int .u32 x, .int .u16 a, .int .u16 b] w (TrueEnd w) := by
  obtain ⟨bv, hu⟩ : ∃ bv, vld c = bv := ⟨_, rfl⟩
  have HU := Lib.hid hu
  have HH := Lib.hid h
  clear hu h
  go_enter Try.func5, Try.ntmps5
  go_wp2_with fail
  refine (awake_any _).mono ?_
  rintro e w1 ⟨rfl, hb⟩
  have hx : w1.heap[w.heap.size]? = some (.cells (cfgA c) 27 (0, 0)) := by
    rw [hb.block _ (by simp)]
    exact heap_alloc_new w _
  have HB1 := Lib.hid (((Below.refl _ _).alloc (Nat.le_refl _) _).trans (hb.mono (by simp)))
  have c0 : w1.cell? ⟨w.heap.size, 0, none⟩ = some (.int .i64 c.n) := cell_of_row _ _ 0 _ _ _ hx
  have c1 : w1.cell? ⟨w.heap.size, 1, none⟩ = some (.int .i64 c.s) := cell_of_row _ _ 1 _ _ _ hx
  have c2 : w1.cell? ⟨w.heap.size, 2, none⟩ = some (.int .i64 c.t) := cell_of_row _ _ 2 _ _ _ hx
  have c3 : w1.cell? ⟨w.heap.size, 3, none⟩ = some (.int .i64 c.r0) := cell_of_row _ _ 3 _ _ _ hx
  have c4 : w1.cell? ⟨w.heap.size, 4, none⟩ = some (.int .i64 c.r1) := cell_of_row _ _ 4 _ _ _ hx
  have c5 : w1.cell? ⟨w.heap.size, 5, none⟩ = some (.int .i64 c.r2) := cell_of_row _ _ 5 _ _ _ hx
  have c6 : w1.cell? ⟨w.heap.size, 6, none⟩ = some (.int .i64 c.r3) := cell_of_row _ _ 6 _ _ _ hx
  have c7 : w1.cell? ⟨w.heap.size, 7, none⟩ = some (.int .i64 c.r4) := cell_of_row _ _ 7 _ _ _ hx
  have c8 : w1.cell? ⟨w.heap.size, 8, none⟩ = some (.int .i64 c.r5) := cell_of_row _ _ 8 _ _ _ hx
  have c9 : w1.cell? ⟨w.heap.size, 9, none⟩ = some (.int .i64 c.r6) := cell_of_row _ _ 9 _ _ _ hx
  have c10 : w1.cell? ⟨w.heap.size, 10, none⟩ = some (.int .i64 c.r7) := cell_of_row _ _ 10 _ _ _ hx
  have c11 : w1.cell? ⟨w.heap.size, 11, none⟩ = some (.int .i64 c.r8) := cell_of_row _ _ 11 _ _ _ hx
  have c12 : w1.cell? ⟨w.heap.size, 12, none⟩ = some (.int .i64 c.r9) := cell_of_row _ _ 12 _ _ _ hx
  have c13 : w1.cell? ⟨w.heap.size, 13, none⟩ = some (.int .i64 c.ra) := cell_of_row _ _ 13 _ _ _ hx
  have c14 : w1.cell? ⟨w.heap.size, 14, none⟩ = some (.int .i64 c.rb) := cell_of_row _ _ 14 _ _ _ hx
  have HX1 := Lib.hid hx
  clear hb hx
  go_wp2_with fail
  refine (valid_any c _).mono ?_
  rintro e w2 ⟨rfl, hb⟩
  rw [HU.out]
  have hx : w2.heap[w.heap.size]? = some (.cells (cfgA c) 27 (0, 0)) := by
    rw [hb.block _ (World.block_lt_of_cell? _ _ c0)]
    exact HX1.out
  have HB2 := Lib.hid (HB1.out.trans (hb.mono HB1.out.size))
  clear hb c0 c1 c2 c3 c4 c5 c6 c7 c8 c9 c10 c11 c12 c13 c14
  have c0 : w2.cell? ⟨w.heap.size, 0, none⟩ = some (.int .i64 c.n) := cell_of_row _ _ 0 _ _ _ hx
  have c1 : w2.cell? ⟨w.heap.size, 1, none⟩ = some (.int .i64 c.s) := cell_of_row _ _ 1 _ _ _ hx
  have c2 : w2.cell? ⟨w.heap.size, 2, none⟩ = some (.int .i64 c.t) := cell_of_row _ _ 2 _ _ _ hx
  have c3 : w2.cell? ⟨w.heap.size, 3, none⟩ = some (.int .i64 c.r0) := cell_of_row _ _ 3 _ _ _ hx
  have c4 : w2.cell? ⟨w.heap.size, 4, none⟩ = some (.int .i64 c.r1) := cell_of_row _ _ 4 _ _ _ hx
  have c5 : w2.cell? ⟨w.heap.size, 5, none⟩ = some (.int .i64 c.r2) := cell_of_row _ _ 5 _ _ _ hx
  have c6 : w2.cell? ⟨w.heap.size, 6, none⟩ = some (.int .i64 c.r3) := cell_of_row _ _ 6 _ _ _ hx
  have c7 : w2.cell? ⟨w.heap.size, 7, none⟩ = some (.int .i64 c.r4) := cell_of_row _ _ 7 _ _ _ hx
  have c8 : w2.cell? ⟨w.heap.size, 8, none⟩ = some (.int .i64 c.r5) := cell_of_row _ _ 8 _ _ _ hx
  have c9 : w2.cell? ⟨w.heap.size, 9, none⟩ = some (.int .i64 c.r6) := cell_of_row _ _ 9 _ _ _ hx
  have c10 : w2.cell? ⟨w.heap.size, 10, none⟩ = some (.int .i64 c.r7) := cell_of_row _ _ 10 _ _ _ hx
  have c11 : w2.cell? ⟨w.heap.size, 11, none⟩ = some (.int .i64 c.r8) := cell_of_row _ _ 11 _ _ _ hx
  have c12 : w2.cell? ⟨w.heap.size, 12, none⟩ = some (.int .i64 c.r9) := cell_of_row _ _ 12 _ _ _ hx
  have c13 : w2.cell? ⟨w.heap.size, 13, none⟩ = some (.int .i64 c.ra) := cell_of_row _ _ 13 _ _ _ hx
  have c14 : w2.cell? ⟨w.heap.size, 14, none⟩ = some (.int .i64 c.rb) := cell_of_row _ _ 14 _ _ _ hx
  have HX2 := Lib.hid hx
  clear hx
  cases bv with
  | false =>
    clear c0 c1 c2 c3 c4 c5 c6 c7 c8 c9 c10 c11 c12 c13 c14
    go_wp2_with fail
    refine (awake_any _).mono ?_
    rintro e w3 ⟨rfl, hb⟩
    have HB3 := Lib.hid (HB2.out.trans (hb.mono HB2.out.size))
    clear hb
    go_wp2_with fail
    go_ret
    go_light
    exact ⟨rfl, HB3.out⟩
  | true =>
    by_cases h0 : core < 0
    · skip
      clear c0 c1 c2 c3 c4 c5 c6 c7 c8 c9 c10 c11 c12 c13 c14
      go_wp2_with fail
      refine (awake_any _).mono ?_
      rintro e w3 ⟨rfl, hb⟩
      have HB3 := Lib.hid (HB2.out.trans (hb.mono HB2.out.size))
      clear hb
      go_wp2_with fail
      go_ret
      go_light
      exact ⟨rfl, HB3.out⟩
    have h1 : c.n ≤ core := by have := HH.out HU.out; omega
    clear c1 c2 c3 c4 c5 c6 c7 c8 c9 c10 c11 c12 c13 c14
    go_wp2_with fail
    refine (awake_any _).mono ?_
    rintro e w3 ⟨rfl, hb⟩
    have HB3 := Lib.hid (HB2.out.trans (hb.mono HB2.out.size))
    clear hb
    go_wp2_with fail
    go_ret
    go_light
    exact ⟨rfl, HB3.out⟩
end Go.Proofs.Ytjdkaagkaambkab
