/- BusSplits: the walk, second part. -/
import Derived.Test.YtjdkaagkaambkabSplA
namespace Go.Proofs.Ytjdkaagkaambkab
open Go.RowKit Go.Proofs

set_option maxHeartbeats 2000000 in
set_option maxRecDepth 1000000 in
theorem spl_in (c : Cfg) (core x a b : Int) (w : World) (x0 : 0 ≤ x) (x1 : x ≤ 4294967295) (a0 : 0 ≤ a) (a1 : a ≤ 65535) (b0 : 0 ≤ b) (b1 : b ≤ 65535) (hv : vld c = true) (h0 : ¬ core < 0) (h1 : ¬ c.n ≤ core) : Calls Try.prog 5 #[cfgV c, .int .i64 core, .int .u32 x, .int .u16 a, .int .u16 b] w (TrueEnd w) := by
  have HU := Lib.hid hv
  clear hv
  obtain ⟨n1, n4, t1, ts, s6⟩ := vld_n HU.out
  have c0' : 0 ≤ core := by omega
  have c1' : core < c.n := by omega
  have spl := split_plain c core x (x + a) (x + a + b) HU.out c0' c1' x0 (by omega) (by omega) (by omega)
  have rx := bnd_range c core (x + a) HU.out c0' c1' (by omega) (x + a - x).toNat x x0 (by omega) (by omega)
  have ry := bnd_range c core (x + a + b) HU.out c0' c1' (by omega) (x + a + b - (x + a)).toNat (x + a) (by omega) (by omega) (by omega)
  have rz := bnd_range c core (x + a + b) HU.out c0' c1' (by omega) (x + a + b - x).toNat x x0 (by omega) (by omega)
  have ls := bnd_least c core x HU.out c0' c1' x0 (by omega)
  have bk := bnd_back c core (x + a + b) x HU.out c0' c1' x0 (by omega) (by omega)
  have hP1 : 1 * 1 ≤ c.n * c.s := Int.mul_le_mul n1 (by omega) (by omega) (by omega)
  have hP2 : c.n * c.s ≤ 4 * 1000000 := Int.mul_le_mul n4 s6 (by omega) (by omega)
  have wh := fun m => whole_plain c core m HU.out c0' c1'
  have qt : c.s.tdiv c.t = c.s / c.t := Int.tdiv_eq_ediv_of_nonneg (by omega)
  have qt0 : 0 ≤ c.s / c.t := Int.ediv_nonneg (by omega) (by omega)
  have qt1 : c.s / c.t ≤ c.s := Int.ediv_le_self _ (by omega)
  obtain ⟨P, hP⟩ : ∃ P, c.n * c.s = P := ⟨_, rfl⟩
  rw [hP] at hP1 hP2 wh
  have m0 : 0 ≤ x / P := Int.ediv_nonneg x0 (by omega)
  have m1 : x / P ≤ x := Int.ediv_le_self _ x0
  have m2 : x / P * P ≤ x := Int.ediv_mul_le _ (by omega)
  have m3 : 0 ≤ x / P * P := Int.mul_nonneg m0 (by omega)
  have md : x.tdiv P = x / P := Int.tdiv_eq_ediv_of_nonneg x0
  have wh := wh (x / P).toNat
  rw [Int.toNat_of_nonneg m0] at wh
  obtain ⟨m, hm⟩ : ∃ m, x / P = m := ⟨_, rfl⟩
  rw [hm] at m0 m1 m2 m3 md wh
  clear hm
  obtain ⟨F, hF⟩ : ∃ F, m * P = F := ⟨_, rfl⟩
  rw [hF] at m2 m3 wh
  have wh := wh (by omega)
  obtain ⟨V, hV⟩ : ∃ V, c.s / c.t = V := ⟨_, rfl⟩
  rw [hV] at wh qt qt0 qt1
  clear hV
  obtain ⟨X, hX⟩ : ∃ X, bnd c core x (x + a) = X := ⟨_, rfl⟩
  obtain ⟨Y, hY⟩ : ∃ Y, bnd c core (x + a) (x + a + b) = Y := ⟨_, rfl⟩
  obtain ⟨Z, hZ⟩ : ∃ Z, bnd c core x (x + a + b) = Z := ⟨_, rfl⟩
  obtain ⟨T, hT⟩ : ∃ T, mtr c = T := ⟨_, rfl⟩
  rw [hT] at ls
  obtain ⟨L, hL⟩ : ∃ L, bnd c core x (x + T) = L := ⟨_, rfl⟩
  rw [hX, hY, hZ] at spl
  rw [hX] at rx
  rw [hY] at ry
  rw [hZ] at rz
  rw [hL] at ls
  have KX := Lib.hid hX
  have KY := Lib.hid hY
  have KZ := Lib.hid hZ
  have KT := Lib.hid hT
  have KL := Lib.hid hL
  have KW := Lib.hid wh
  have KB := Lib.hid bk
  clear hX hY hZ hT hL wh bk
  have w1_ : IntKind.i64.wrap a = a := IntWalk.i64_in _ (by omega)
  have w2_ : IntKind.i64.wrap b = b := IntWalk.i64_in _ (by omega)
  have w3_ : IntKind.i64.wrap (x + a) = x + a := IntWalk.i64_in _ (by omega)
  have w4_ : IntKind.i64.wrap (x + a + b) = x + a + b := IntWalk.i64_in _ (by omega)
  have w5_ : IntKind.i64.wrap P = P := IntWalk.i64_in _ (by omega)
  have w6_ : IntKind.i64.wrap m = m := IntWalk.i64_in _ (by omega)
  have w7_ : IntKind.i64.wrap F = F := IntWalk.i64_in _ (by omega)
  have w8_ : IntKind.i64.wrap (F + P) = F + P := IntWalk.i64_in _ (by omega)
  have w9_ : IntKind.i64.wrap (X + Y) = X + Y := IntWalk.i64_in _ (by omega)
  have wa_ : IntKind.i64.wrap (X + Y + 1) = X + Y + 1 := IntWalk.i64_in _ (by omega)
  have wb_ : IntKind.i64.wrap V = V := IntWalk.i64_in _ (by omega)
  have wc_ : IntKind.i64.wrap (x + T) = x + T := IntWalk.i64_in _ (by omega)
  have nz : ¬ P = 0 := by omega
  have tz : ¬ c.t = 0 := by omega
  have q1 : decide (X + Y ≤ Z) = true := decide_eq_true (by omega)
  have q2 : decide (Z ≤ X + Y + 1) = true := decide_eq_true (by omega)
  have q3 : (V == V) = true := by simp
  have q4 : decide (L ≥ 1) = true := decide_eq_true (by omega)
  have q4' : decide (1 ≤ L) = true := decide_eq_true (by omega)
  clear spl rx ry rz hP1 hP2
  go_enter Try.func5, Try.ntmps5
  go_wp2_with fail
  refine (awake_any _).mono ?_
  rintro e w1 ⟨rfl, hb⟩
  have hx : w1.heap[w.heap.size]? = some (.cells (cfgA c) 27 (0, 0)) := by
    rw [hb.block _ (by simp)]
    exact heap_alloc_new w _
  have HB1 := Lib.hid (((Below.refl _ _).alloc (Nat.le_refl _) _).trans (hb.mono (by simp)))
  have c0 : w1.cell? ⟨w.heap.size, 0, none⟩ = some (.int .i64 c.n) := cell_of_row _ _ 0 _ _ _ hx
  have c1 : w1.cell? ⟨w.heap.size, 1, none⟩ = some (.int .i64 c.s) := cell_of_row _ _ 1 _ _ _ hx
  have c2 : w1.cell? ⟨w.heap.size, 2, none⟩ = some (.int .i64 c.t) := cell_of_row _ _ 2 _ _ _ hx
  have c3 : w1.cell? ⟨w.heap.size, 3, none⟩ = some (.int .i64 c.r0) := cell_of_row _ _ 3 _ _ _ hx
  have c4 : w1.cell? ⟨w.heap.size, 4, none⟩ = some (.int .i64 c.r1) := cell_of_row _ _ 4 _ _ _ hx
  have c5 : w1.cell? ⟨w.heap.size, 5, none⟩ = some (.int .i64 c.r2) := cell_of_row _ _ 5 _ _ _ hx
  have c6 : w1.cell? ⟨w.heap.size, 6, none⟩ = some (.int .i64 c.r3) := cell_of_row _ _ 6 _ _ _ hx
  have c7 : w1.cell? ⟨w.heap.size, 7, none⟩ = some (.int .i64 c.r4) := cell_of_row _ _ 7 _ _ _ hx
  have c8 : w1.cell? ⟨w.heap.size, 8, none⟩ = some (.int .i64 c.r5) := cell_of_row _ _ 8 _ _ _ hx
  have c9 : w1.cell? ⟨w.heap.size, 9, none⟩ = some (.int .i64 c.r6) := cell_of_row _ _ 9 _ _ _ hx
  have c10 : w1.cell? ⟨w.heap.size, 10, none⟩ = some (.int .i64 c.r7) := cell_of_row _ _ 10 _ _ _ hx
  have c11 : w1.cell? ⟨w.heap.size, 11, none⟩ = some (.int .i64 c.r8) := cell_of_row _ _ 11 _ _ _ hx
  have c12 : w1.cell? ⟨w.heap.size, 12, none⟩ = some (.int .i64 c.r9) := cell_of_row _ _ 12 _ _ _ hx
  have c13 : w1.cell? ⟨w.heap.size, 13, none⟩ = some (.int .i64 c.ra) := cell_of_row _ _ 13 _ _ _ hx
  have c14 : w1.cell? ⟨w.heap.size, 14, none⟩ = some (.int .i64 c.rb) := cell_of_row _ _ 14 _ _ _ hx
  have HX1 := Lib.hid hx
  clear hb hx
  go_wp2_with fail
  refine (valid_any c _).mono ?_
  rintro e w2 ⟨rfl, hb⟩
  rw [HU.out]
  have hx : w2.heap[w.heap.size]? = some (.cells (cfgA c) 27 (0, 0)) := by
    rw [hb.block _ (World.block_lt_of_cell? _ _ c0)]
    exact HX1.out
  have HB2 := Lib.hid (HB1.out.trans (hb.mono HB1.out.size))
  clear hb c0 c1 c2 c3 c4 c5 c6 c7 c8 c9 c10 c11 c12 c13 c14
  have c0 : w2.cell? ⟨w.heap.size, 0, none⟩ = some (.int .i64 c.n) := cell_of_row _ _ 0 _ _ _ hx
  have c1 : w2.cell? ⟨w.heap.size, 1, none⟩ = some (.int .i64 c.s) := cell_of_row _ _ 1 _ _ _ hx
  have c2 : w2.cell? ⟨w.heap.size, 2, none⟩ = some (.int .i64 c.t) := cell_of_row _ _ 2 _ _ _ hx
  have c3 : w2.cell? ⟨w.heap.size, 3, none⟩ = some (.int .i64 c.r0) := cell_of_row _ _ 3 _ _ _ hx
  have c4 : w2.cell? ⟨w.heap.size, 4, none⟩ = some (.int .i64 c.r1) := cell_of_row _ _ 4 _ _ _ hx
  have c5 : w2.cell? ⟨w.heap.size, 5, none⟩ = some (.int .i64 c.r2) := cell_of_row _ _ 5 _ _ _ hx
  have c6 : w2.cell? ⟨w.heap.size, 6, none⟩ = some (.int .i64 c.r3) := cell_of_row _ _ 6 _ _ _ hx
  have c7 : w2.cell? ⟨w.heap.size, 7, none⟩ = some (.int .i64 c.r4) := cell_of_row _ _ 7 _ _ _ hx
  have c8 : w2.cell? ⟨w.heap.size, 8, none⟩ = some (.int .i64 c.r5) := cell_of_row _ _ 8 _ _ _ hx
  have c9 : w2.cell? ⟨w.heap.size, 9, none⟩ = some (.int .i64 c.r6) := cell_of_row _ _ 9 _ _ _ hx
  have c10 : w2.cell? ⟨w.heap.size, 10, none⟩ = some (.int .i64 c.r7) := cell_of_row _ _ 10 _ _ _ hx
  have c11 : w2.cell? ⟨w.heap.size, 11, none⟩ = some (.int .i64 c.r8) := cell_of_row _ _ 11 _ _ _ hx
  have c12 : w2.cell? ⟨w.heap.size, 12, none⟩ = some (.int .i64 c.r9) := cell_of_row _ _ 12 _ _ _ hx
  have c13 : w2.cell? ⟨w.heap.size, 13, none⟩ = some (.int .i64 c.ra) := cell_of_row _ _ 13 _ _ _ hx
  have c14 : w2.cell? ⟨w.heap.size, 14, none⟩ = some (.int .i64 c.rb) := cell_of_row _ _ 14 _ _ _ hx
  have HX2 := Lib.hid hx
  clear hx
  go_wp2_with fail
  refine (cycle_any x x0 (by omega) _).mono ?_
  rintro e w3 ⟨rfl, hb⟩
  have hx : w3.heap[w.heap.size]? = some (.cells (cfgA c) 27 (0, 0)) := by
    rw [hb.block _ (World.block_lt_of_cell? _ _ c0)]
    exact HX2.out
  have HB3 := Lib.hid (HB2.out.trans (hb.mono HB2.out.size))
  clear hb c0 c1 c2 c3 c4 c5 c6 c7 c8 c9 c10 c11 c12 c13 c14
  have c0 : w3.cell? ⟨w.heap.size, 0, none⟩ = some (.int .i64 c.n) := cell_of_row _ _ 0 _ _ _ hx
  have c1 : w3.cell? ⟨w.heap.size, 1, none⟩ = some (.int .i64 c.s) := cell_of_row _ _ 1 _ _ _ hx
  have c2 : w3.cell? ⟨w.heap.size, 2, none⟩ = some (.int .i64 c.t) := cell_of_row _ _ 2 _ _ _ hx
  have c3 : w3.cell? ⟨w.heap.size, 3, none⟩ = some (.int .i64 c.r0) := cell_of_row _ _ 3 _ _ _ hx
  have c4 : w3.cell? ⟨w.heap.size, 4, none⟩ = some (.int .i64 c.r1) := cell_of_row _ _ 4 _ _ _ hx
  have c5 : w3.cell? ⟨w.heap.size, 5, none⟩ = some (.int .i64 c.r2) := cell_of_row _ _ 5 _ _ _ hx
  have c6 : w3.cell? ⟨w.heap.size, 6, none⟩ = some (.int .i64 c.r3) := cell_of_row _ _ 6 _ _ _ hx
  have c7 : w3.cell? ⟨w.heap.size, 7, none⟩ = some (.int .i64 c.r4) := cell_of_row _ _ 7 _ _ _ hx
  have c8 : w3.cell? ⟨w.heap.size, 8, none⟩ = some (.int .i64 c.r5) := cell_of_row _ _ 8 _ _ _ hx
  have c9 : w3.cell? ⟨w.heap.size, 9, none⟩ = some (.int .i64 c.r6) := cell_of_row _ _ 9 _ _ _ hx
  have c10 : w3.cell? ⟨w.heap.size, 10, none⟩ = some (.int .i64 c.r7) := cell_of_row _ _ 10 _ _ _ hx
  have c11 : w3.cell? ⟨w.heap.size, 11, none⟩ = some (.int .i64 c.r8) := cell_of_row _ _ 11 _ _ _ hx
  have c12 : w3.cell? ⟨w.heap.size, 12, none⟩ = some (.int .i64 c.r9) := cell_of_row _ _ 12 _ _ _ hx
  have c13 : w3.cell? ⟨w.heap.size, 13, none⟩ = some (.int .i64 c.ra) := cell_of_row _ _ 13 _ _ _ hx
  have c14 : w3.cell? ⟨w.heap.size, 14, none⟩ = some (.int .i64 c.rb) := cell_of_row _ _ 14 _ _ _ hx
  have HX3 := Lib.hid hx
  clear hx
  go_wp2_with fail
  have X0 := Ext.cell c0
  have X1 := Ext.cell c1
  have X2 := Ext.cell c2
  have X3 := Ext.cell c3
  have X4 := Ext.cell c4
  have X5 := Ext.cell c5
  have X6 := Ext.cell c6
  have X7 := Ext.cell c7
  have X8 := Ext.cell c8
  have X9 := Ext.cell c9
  have X10 := Ext.cell c10
  have X11 := Ext.cell c11
  have X12 := Ext.cell c12
  have X13 := Ext.cell c13
  have X14 := Ext.cell c14
  clear c0 c1 c2 c3 c4 c5 c6 c7 c8 c9 c10 c11 c12 c13 c14
  refine wq_region (by kernel_rfl) (by kernel_rfl) ?_
  repeat (refine Wq.step (fun K hK => ?_); go_simp; first | (refine hK _ ?_; clear hK K) | (refine ⟨_, fun _ => rfl, hK _ ?_⟩; clear hK K))
  refine Wq.step (fun K hK => ?_)
  go_simp
  apply Exists.intro
  refine ⟨fun _ => ?_, hK _ ?_⟩
  · exact Ext.call _ (bnd_v c core x (x + a) X _ KX.out)
  clear hK K
  repeat (refine Wq.step (fun K hK => ?_); go_simp; first | (refine hK _ ?_; clear hK K) | (refine ⟨_, fun _ => rfl, hK _ ?_⟩; clear hK K))
  refine Wq.step (fun K hK => ?_)
  go_simp
  apply Exists.intro
  refine ⟨fun _ => ?_, hK _ ?_⟩
  · exact Ext.call _ (bnd_v c core (x + a) (x + a + b) Y _ KY.out)
  clear hK K
  repeat (refine Wq.step (fun K hK => ?_); go_simp; first | (refine hK _ ?_; clear hK K) | (refine ⟨_, fun _ => rfl, hK _ ?_⟩; clear hK K))
  refine Wq.step (fun K hK => ?_)
  go_simp
  apply Exists.intro
  refine ⟨fun _ => ?_, hK _ ?_⟩
  · exact Ext.call _ (bnd_v c core x (x + a + b) Z _ KZ.out)
  clear hK K
  repeat (refine Wq.step (fun K hK => ?_); go_simp; first | (refine hK _ ?_; clear hK K) | (refine ⟨_, fun _ => rfl, hK _ ?_⟩; clear hK K))
  refine Wq.nil ?_
  rintro _ ⟨u, rfl⟩
  obtain ⟨w4, hb⟩ := u
  simp only []
  have hx : w4.heap[w.heap.size]? = some (.cells (cfgA c) 27 (0, 0)) := by
    rw [hb.block _ (World.block_lt_of_cell? _ _ (X0 ⟨w3, Below.refl _ _⟩))]
    exact HX3.out
  have HB4 := Lib.hid (HB3.out.trans (hb.mono HB3.out.size))
  clear hb X0 X1 X2 X3 X4 X5 X6 X7 X8 X9 X10 X11 X12 X13 X14
  have c0 : w4.cell? ⟨w.heap.size, 0, none⟩ = some (.int .i64 c.n) := cell_of_row _ _ 0 _ _ _ hx
  have c1 : w4.cell? ⟨w.heap.size, 1, none⟩ = some (.int .i64 c.s) := cell_of_row _ _ 1 _ _ _ hx
  have c2 : w4.cell? ⟨w.heap.size, 2, none⟩ = some (.int .i64 c.t) := cell_of_row _ _ 2 _ _ _ hx
  have c3 : w4.cell? ⟨w.heap.size, 3, none⟩ = some (.int .i64 c.r0) := cell_of_row _ _ 3 _ _ _ hx
  have c4 : w4.cell? ⟨w.heap.size, 4, none⟩ = some (.int .i64 c.r1) := cell_of_row _ _ 4 _ _ _ hx
  have c5 : w4.cell? ⟨w.heap.size, 5, none⟩ = some (.int .i64 c.r2) := cell_of_row _ _ 5 _ _ _ hx
  have c6 : w4.cell? ⟨w.heap.size, 6, none⟩ = some (.int .i64 c.r3) := cell_of_row _ _ 6 _ _ _ hx
  have c7 : w4.cell? ⟨w.heap.size, 7, none⟩ = some (.int .i64 c.r4) := cell_of_row _ _ 7 _ _ _ hx
  have c8 : w4.cell? ⟨w.heap.size, 8, none⟩ = some (.int .i64 c.r5) := cell_of_row _ _ 8 _ _ _ hx
  have c9 : w4.cell? ⟨w.heap.size, 9, none⟩ = some (.int .i64 c.r6) := cell_of_row _ _ 9 _ _ _ hx
  have c10 : w4.cell? ⟨w.heap.size, 10, none⟩ = some (.int .i64 c.r7) := cell_of_row _ _ 10 _ _ _ hx
  have c11 : w4.cell? ⟨w.heap.size, 11, none⟩ = some (.int .i64 c.r8) := cell_of_row _ _ 11 _ _ _ hx
  have c12 : w4.cell? ⟨w.heap.size, 12, none⟩ = some (.int .i64 c.r9) := cell_of_row _ _ 12 _ _ _ hx
  have c13 : w4.cell? ⟨w.heap.size, 13, none⟩ = some (.int .i64 c.ra) := cell_of_row _ _ 13 _ _ _ hx
  have c14 : w4.cell? ⟨w.heap.size, 14, none⟩ = some (.int .i64 c.rb) := cell_of_row _ _ 14 _ _ _ hx
  have HX4 := Lib.hid hx
  clear hx
  as_aux_lemma =>
    go_wp2_with fail
    have X0 := Ext.cell c0
    have X1 := Ext.cell c1
    have X2 := Ext.cell c2
    have X3 := Ext.cell c3
    have X4 := Ext.cell c4
    have X5 := Ext.cell c5
    have X6 := Ext.cell c6
    have X7 := Ext.cell c7
    have X8 := Ext.cell c8
    have X9 := Ext.cell c9
    have X10 := Ext.cell c10
    have X11 := Ext.cell c11
    have X12 := Ext.cell c12
    have X13 := Ext.cell c13
    have X14 := Ext.cell c14
    clear c0 c1 c2 c3 c4 c5 c6 c7 c8 c9 c10 c11 c12 c13 c14
    refine wq_region (by kernel_rfl) (by kernel_rfl) ?_
    repeat (refine Wq.step (fun K hK => ?_); go_simp; first | (refine hK _ ?_; clear hK K) | (refine ⟨_, fun _ => rfl, hK _ ?_⟩; clear hK K))
    refine Wq.step (fun K hK => ?_)
    go_simp
    apply Exists.intro
    refine ⟨fun _ => ?_, hK _ ?_⟩
    · exact Ext.call _ (bnd_v c core F (F + P) V _ KW.out)
    clear hK K
    repeat (refine Wq.step (fun K hK => ?_); go_simp; first | (refine hK _ ?_; clear hK K) | (refine ⟨_, fun _ => rfl, hK _ ?_⟩; clear hK K))
    refine Wq.nil ?_
    rintro _ ⟨u, rfl⟩
    obtain ⟨w5, hb⟩ := u
    simp only []
    have hx : w5.heap[w.heap.size]? = some (.cells (cfgA c) 27 (0, 0)) := by
      rw [hb.block _ (World.block_lt_of_cell? _ _ (X0 ⟨w4, Below.refl _ _⟩))]
      exact HX4.out
    have HB5 := Lib.hid (HB4.out.trans (hb.mono HB4.out.size))
    clear hb X0 X1 X2 X3 X4 X5 X6 X7 X8 X9 X10 X11 X12 X13 X14
    have c0 : w5.cell? ⟨w.heap.size, 0, none⟩ = some (.int .i64 c.n) := cell_of_row _ _ 0 _ _ _ hx
    have c1 : w5.cell? ⟨w.heap.size, 1, none⟩ = some (.int .i64 c.s) := cell_of_row _ _ 1 _ _ _ hx
    have c2 : w5.cell? ⟨w.heap.size, 2, none⟩ = some (.int .i64 c.t) := cell_of_row _ _ 2 _ _ _ hx
    have c3 : w5.cell? ⟨w.heap.size, 3, none⟩ = some (.int .i64 c.r0) := cell_of_row _ _ 3 _ _ _ hx
    have c4 : w5.cell? ⟨w.heap.size, 4, none⟩ = some (.int .i64 c.r1) := cell_of_row _ _ 4 _ _ _ hx
    have c5 : w5.cell? ⟨w.heap.size, 5, none⟩ = some (.int .i64 c.r2) := cell_of_row _ _ 5 _ _ _ hx
    have c6 : w5.cell? ⟨w.heap.size, 6, none⟩ = some (.int .i64 c.r3) := cell_of_row _ _ 6 _ _ _ hx
    have c7 : w5.cell? ⟨w.heap.size, 7, none⟩ = some (.int .i64 c.r4) := cell_of_row _ _ 7 _ _ _ hx
    have c8 : w5.cell? ⟨w.heap.size, 8, none⟩ = some (.int .i64 c.r5) := cell_of_row _ _ 8 _ _ _ hx
    have c9 : w5.cell? ⟨w.heap.size, 9, none⟩ = some (.int .i64 c.r6) := cell_of_row _ _ 9 _ _ _ hx
    have c10 : w5.cell? ⟨w.heap.size, 10, none⟩ = some (.int .i64 c.r7) := cell_of_row _ _ 10 _ _ _ hx
    have c11 : w5.cell? ⟨w.heap.size, 11, none⟩ = some (.int .i64 c.r8) := cell_of_row _ _ 11 _ _ _ hx
    have c12 : w5.cell? ⟨w.heap.size, 12, none⟩ = some (.int .i64 c.r9) := cell_of_row _ _ 12 _ _ _ hx
    have c13 : w5.cell? ⟨w.heap.size, 13, none⟩ = some (.int .i64 c.ra) := cell_of_row _ _ 13 _ _ _ hx
    have c14 : w5.cell? ⟨w.heap.size, 14, none⟩ = some (.int .i64 c.rb) := cell_of_row _ _ 14 _ _ _ hx
    have HX5 := Lib.hid hx
    clear hx
    as_aux_lemma =>
      go_wp2_with fail
      have X0 := Ext.cell c0
      have X1 := Ext.cell c1
      have X2 := Ext.cell c2
      have X3 := Ext.cell c3
      have X4 := Ext.cell c4
      have X5 := Ext.cell c5
      have X6 := Ext.cell c6
      have X7 := Ext.cell c7
      have X8 := Ext.cell c8
      have X9 := Ext.cell c9
      have X10 := Ext.cell c10
      have X11 := Ext.cell c11
      have X12 := Ext.cell c12
      have X13 := Ext.cell c13
      have X14 := Ext.cell c14
      clear c0 c1 c2 c3 c4 c5 c6 c7 c8 c9 c10 c11 c12 c13 c14
      refine wq_region (by kernel_rfl) (by kernel_rfl) ?_
      repeat (refine Wq.step (fun K hK => ?_); go_simp; first | (refine hK _ ?_; clear hK K) | (refine ⟨_, fun _ => rfl, hK _ ?_⟩; clear hK K))
      refine Wq.step (fun K hK => ?_)
      go_simp
      apply Exists.intro
      refine ⟨fun _ => ?_, hK _ ?_⟩
      · exact Ext.call _ (mtr_v c T _ KT.out)
      clear hK K
      repeat (refine Wq.step (fun K hK => ?_); go_simp; first | (refine hK _ ?_; clear hK K) | (refine ⟨_, fun _ => rfl, hK _ ?_⟩; clear hK K))
      refine Wq.step (fun K hK => ?_)
      go_simp
      apply Exists.intro
      refine ⟨fun _ => ?_, hK _ ?_⟩
      · exact Ext.call _ (bnd_v c core x (x + T) L _ KL.out)
      clear hK K
      repeat (refine Wq.step (fun K hK => ?_); go_simp; first | (refine hK _ ?_; clear hK K) | (refine ⟨_, fun _ => rfl, hK _ ?_⟩; clear hK K))
      refine Wq.step (fun K hK => ?_)
      go_simp
      apply Exists.intro
      refine ⟨fun _ => ?_, hK _ ?_⟩
      · exact Ext.call _ (bnd_v c core (x + a + b) x 0 _ KB.out)
      clear hK K
      repeat (refine Wq.step (fun K hK => ?_); go_simp; first | (refine hK _ ?_; clear hK K) | (refine ⟨_, fun _ => rfl, hK _ ?_⟩; clear hK K))
      refine Wq.nil ?_
      rintro _ ⟨u, rfl⟩
      obtain ⟨w6, hb⟩ := u
      simp only []
      have HB6 := Lib.hid (HB5.out.trans (hb.mono HB5.out.size))
      clear hb
      go_wp2_with fail
      go_ret
      go_light
      exact ⟨rfl, HB6.out⟩

theorem spl_walk (c : Cfg) (core x a b : Int) (w : World) (x0 : 0 ≤ x) (x1 : x ≤ 4294967295) (a0 : 0 ≤ a) (a1 : a ≤ 65535) (b0 : 0 ≤ b) (b1 : b ≤ 65535) : Calls Try.prog 5 #[cfgV c, .int .i64 core, .int .u32 x, .int .u16 a, .int .u16 b] w (TrueEnd w) := by
  by_cases h : vld c = true → core < 0 ∨ c.n ≤ core
  · exact spl_out c core x a b w h
  · have hv : vld c = true := by
      cases hu : vld c
      · exact absurd (fun e => by rw [hu] at e; cases e) h
      · rfl
    have hn : ¬ (core < 0 ∨ c.n ≤ core) := fun e => h fun _ => e
    exact spl_in c core x a b w x0 x1 a0 a1 b0 b1 hv (by omega) (by omega)
end Go.Proofs.Ytjdkaagkaambkab
