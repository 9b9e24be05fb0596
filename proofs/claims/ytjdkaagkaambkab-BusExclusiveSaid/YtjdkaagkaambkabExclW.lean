/- BusExclusive: the walk. -/
import Derived.Test.YtjdkaagkaambkabS
namespace Go.Proofs.Ytjdkaagkaambkab
open Go.RowKit Go.Proofs

/-- What the loop over the three cycles keeps. -/
def ExRel (w : World) (B : Nat) (c : Cfg) (x m p : Int) (i : Nat) (wr : World) : Prop :=
  i ≤ 3 ∧ wr.heap[w.heap.size]? = some (.cells (cfgA c) 27 (0, 0)) ∧ wr.heap[B]? = some (.cells #[.int .i64 x, .int .i64 m, .int .i64 p] 3 (0, 0)) ∧ Below w.heap.size w wr

set_option maxHeartbeats 2000000 in
set_option maxRecDepth 1000000 in
theorem excl_walk (c : Cfg) (a b x y : Int) (w : World) (x0 : 0 ≤ x) (x1 : x ≤ 4294967295) (y0 : 0 ≤ y) (y1 : y ≤ 4294967295) : Calls Try.prog 10 #[cfgV c, .int .i64 a, .int .i64 b, .int .u32 x, .int .u32 y] w (TrueEnd w) := by
  obtain ⟨bv, hu⟩ : ∃ bv, vld c = bv := ⟨_, rfl⟩
  have HU := Lib.hid hu
  clear hu
  go_enter Try.func10, Try.ntmps10
  go_wp2_with fail
  refine (awake_any _).mono ?_
  rintro e w1 ⟨rfl, hb⟩
  have hx : w1.heap[w.heap.size]? = some (.cells (cfgA c) 27 (0, 0)) := by
    rw [hb.block _ (by simp)]
    exact heap_alloc_new w _
  have HB1 := Lib.hid (((Below.refl _ _).alloc (Nat.le_refl _) _).trans (hb.mono (by simp)))
  have c0 : w1.cell? ⟨w.heap.size, 0, none⟩ = some (.int .i64 c.n) := cell_of_row _ _ 0 _ _ _ hx
  have c1 : w1.cell? ⟨w.heap.size, 1, none⟩ = some (.int .i64 c.s) := cell_of_row _ _ 1 _ _ _ hx
  have c2 : w1.cell? ⟨w.heap.size, 2, none⟩ = some (.int .i64 c.t) := cell_of_row _ _ 2 _ _ _ hx
  have c3 : w1.cell? ⟨w.heap.size, 3, none⟩ = some (.int .i64 c.r0) := cell_of_row _ _ 3 _ _ _ hx
  have c4 : w1.cell? ⟨w.heap.size, 4, none⟩ = some (.int .i64 c.r1) := cell_of_row _ _ 4 _ _ _ hx
  have c5 : w1.cell? ⟨w.heap.size, 5, none⟩ = some (.int .i64 c.r2) := cell_of_row _ _ 5 _ _ _ hx
  have c6 : w1.cell? ⟨w.heap.size, 6, none⟩ = some (.int .i64 c.r3) := cell_of_row _ _ 6 _ _ _ hx
  have c7 : w1.cell? ⟨w.heap.size, 7, none⟩ = some (.int .i64 c.r4) := cell_of_row _ _ 7 _ _ _ hx
  have c8 : w1.cell? ⟨w.heap.size, 8, none⟩ = some (.int .i64 c.r5) := cell_of_row _ _ 8 _ _ _ hx
  have c9 : w1.cell? ⟨w.heap.size, 9, none⟩ = some (.int .i64 c.r6) := cell_of_row _ _ 9 _ _ _ hx
  have c10 : w1.cell? ⟨w.heap.size, 10, none⟩ = some (.int .i64 c.r7) := cell_of_row _ _ 10 _ _ _ hx
  have c11 : w1.cell? ⟨w.heap.size, 11, none⟩ = some (.int .i64 c.r8) := cell_of_row _ _ 11 _ _ _ hx
  have c12 : w1.cell? ⟨w.heap.size, 12, none⟩ = some (.int .i64 c.r9) := cell_of_row _ _ 12 _ _ _ hx
  have c13 : w1.cell? ⟨w.heap.size, 13, none⟩ = some (.int .i64 c.ra) := cell_of_row _ _ 13 _ _ _ hx
  have c14 : w1.cell? ⟨w.heap.size, 14, none⟩ = some (.int .i64 c.rb) := cell_of_row _ _ 14 _ _ _ hx
  have HX1 := Lib.hid hx
  clear hb hx
  go_wp2_with fail
  refine (valid_any c _).mono ?_
  rintro e w2 ⟨rfl, hb⟩
  rw [HU.out]
  have hx : w2.heap[w.heap.size]? = some (.cells (cfgA c) 27 (0, 0)) := by
    rw [hb.block _ (World.block_lt_of_cell? _ _ c0)]
    exact HX1.out
  have HB2 := Lib.hid (HB1.out.trans (hb.mono HB1.out.size))
  clear hb c0 c1 c2 c3 c4 c5 c6 c7 c8 c9 c10 c11 c12 c13 c14
  have c0 : w2.cell? ⟨w.heap.size, 0, none⟩ = some (.int .i64 c.n) := cell_of_row _ _ 0 _ _ _ hx
  have c1 : w2.cell? ⟨w.heap.size, 1, none⟩ = some (.int .i64 c.s) := cell_of_row _ _ 1 _ _ _ hx
  have c2 : w2.cell? ⟨w.heap.size, 2, none⟩ = some (.int .i64 c.t) := cell_of_row _ _ 2 _ _ _ hx
  have c3 : w2.cell? ⟨w.heap.size, 3, none⟩ = some (.int .i64 c.r0) := cell_of_row _ _ 3 _ _ _ hx
  have c4 : w2.cell? ⟨w.heap.size, 4, none⟩ = some (.int .i64 c.r1) := cell_of_row _ _ 4 _ _ _ hx
  have c5 : w2.cell? ⟨w.heap.size, 5, none⟩ = some (.int .i64 c.r2) := cell_of_row _ _ 5 _ _ _ hx
  have c6 : w2.cell? ⟨w.heap.size, 6, none⟩ = some (.int .i64 c.r3) := cell_of_row _ _ 6 _ _ _ hx
  have c7 : w2.cell? ⟨w.heap.size, 7, none⟩ = some (.int .i64 c.r4) := cell_of_row _ _ 7 _ _ _ hx
  have c8 : w2.cell? ⟨w.heap.size, 8, none⟩ = some (.int .i64 c.r5) := cell_of_row _ _ 8 _ _ _ hx
  have c9 : w2.cell? ⟨w.heap.size, 9, none⟩ = some (.int .i64 c.r6) := cell_of_row _ _ 9 _ _ _ hx
  have c10 : w2.cell? ⟨w.heap.size, 10, none⟩ = some (.int .i64 c.r7) := cell_of_row _ _ 10 _ _ _ hx
  have c11 : w2.cell? ⟨w.heap.size, 11, none⟩ = some (.int .i64 c.r8) := cell_of_row _ _ 11 _ _ _ hx
  have c12 : w2.cell? ⟨w.heap.size, 12, none⟩ = some (.int .i64 c.r9) := cell_of_row _ _ 12 _ _ _ hx
  have c13 : w2.cell? ⟨w.heap.size, 13, none⟩ = some (.int .i64 c.ra) := cell_of_row _ _ 13 _ _ _ hx
  have c14 : w2.cell? ⟨w.heap.size, 14, none⟩ = some (.int .i64 c.rb) := cell_of_row _ _ 14 _ _ _ hx
  have HX2 := Lib.hid hx
  clear hx
  cases bv with
  | false =>
    clear c0 c1 c2 c3 c4 c5 c6 c7 c8 c9 c10 c11 c12 c13 c14
    go_wp2_with fail
    refine (awake_any _).mono ?_
    rintro e w3 ⟨rfl, hb⟩
    have HB3 := Lib.hid (HB2.out.trans (hb.mono HB2.out.size))
    clear hb
    go_wp2_with fail
    go_ret
    go_light
    exact ⟨rfl, HB3.out⟩
  | true =>
    by_cases a0 : a < 0
    · skip
      clear c0 c1 c2 c3 c4 c5 c6 c7 c8 c9 c10 c11 c12 c13 c14
      go_wp2_with fail
      refine (awake_any _).mono ?_
      rintro e w3 ⟨rfl, hb⟩
      have HB3 := Lib.hid (HB2.out.trans (hb.mono HB2.out.size))
      clear hb
      go_wp2_with fail
      go_ret
      go_light
      exact ⟨rfl, HB3.out⟩
    by_cases b0 : b < 0
    · skip
      clear c0 c1 c2 c3 c4 c5 c6 c7 c8 c9 c10 c11 c12 c13 c14
      go_wp2_with fail
      refine (awake_any _).mono ?_
      rintro e w3 ⟨rfl, hb⟩
      have HB3 := Lib.hid (HB2.out.trans (hb.mono HB2.out.size))
      clear hb
      go_wp2_with fail
      go_ret
      go_light
      exact ⟨rfl, HB3.out⟩
    by_cases a1 : c.n ≤ a
    · skip
      clear c1 c2 c3 c4 c5 c6 c7 c8 c9 c10 c11 c12 c13 c14
      go_wp2_with fail
      refine (awake_any _).mono ?_
      rintro e w3 ⟨rfl, hb⟩
      have HB3 := Lib.hid (HB2.out.trans (hb.mono HB2.out.size))
      clear hb
      go_wp2_with fail
      go_ret
      go_light
      exact ⟨rfl, HB3.out⟩
    by_cases b1 : c.n ≤ b
    · skip
      clear c1 c2 c3 c4 c5 c6 c7 c8 c9 c10 c11 c12 c13 c14
      go_wp2_with fail
      refine (awake_any _).mono ?_
      rintro e w3 ⟨rfl, hb⟩
      have HB3 := Lib.hid (HB2.out.trans (hb.mono HB2.out.size))
      clear hb
      go_wp2_with fail
      go_ret
      go_light
      exact ⟨rfl, HB3.out⟩
    have ux := use_ok HU.out (core := a) (x := x) (by omega) (by omega) x0 (by omega)
    have uy := use_ok HU.out (core := b) (x := y) (by omega) (by omega) y0 (by omega)
    have bx := strt0_bounds c a x ux
    have by_ := strt0_bounds c b y uy
    have cx := strt0_can c a x HU.out (by omega) (by omega)
    have cy := strt0_can c b y HU.out (by omega) (by omega)
    obtain ⟨n1, n4, t1, ts, s6⟩ := vld_n HU.out
    have HSX : Hid (strt c a x = strt0 c a x) := Lib.hid (by rw [strt, if_pos ux])
    have HSY : Hid (strt c b y = strt0 c b y) := Lib.hid (by rw [strt, if_pos uy])
    have HDX : Hid (don c a x = strt0 c a x + c.t) := Lib.hid (by rw [don, if_pos ux])
    have HDY : Hid (don c b y = strt0 c b y + c.t) := Lib.hid (by rw [don, if_pos uy])
    clear ux uy
    generalize strt0 c a x = X at *
    generalize strt0 c b y = Y at *
    have HO : Hid (∀ z, X ≤ z → z < X + c.t → ownr c z = a) := Lib.hid fun z h1 h2 => own_slot HU.out cx h1 h2 (by omega) (by omega)
    have HA : Hid (a ≠ b → X + c.t ≤ Y ∨ Y + c.t ≤ X) := Lib.hid fun h => apart HU.out cx cy h
    clear cx cy
    obtain ⟨P, hP⟩ : ∃ P, X + c.t = P := ⟨_, rfl⟩
    obtain ⟨Q, hQ⟩ : ∃ Q, Y + c.t = Q := ⟨_, rfl⟩
    rw [hP] at HDX HO HA
    rw [hQ] at HDY HA
    have pb : X < P ∧ P ≤ X + 1000000 := by omega
    have qb : Y < Q ∧ Q ≤ Y + 1000000 := by omega
    clear hP hQ
    have hd : (X + P).tdiv 2 = (X + P) / 2 := Int.tdiv_eq_ediv_of_nonneg (by omega)
    obtain ⟨M, hM⟩ : ∃ M, (X + P) / 2 = M := ⟨_, rfl⟩
    have mb : X ≤ M ∧ M < P := by omega
    rw [hM] at hd
    clear hM
    have w1_ : IntKind.i64.wrap (X + P) = X + P := IntWalk.i64_in _ (by omega)
    have w2_ : IntKind.i64.wrap M = M := IntWalk.i64_in _ (by omega)
    have w3_ : IntKind.i64.wrap (P - 1) = P - 1 := IntWalk.i64_in _ (by omega)
    go_wp2_with fail
    have X0 := Ext.cell c0
    have X1 := Ext.cell c1
    have X2 := Ext.cell c2
    have X3 := Ext.cell c3
    have X4 := Ext.cell c4
    have X5 := Ext.cell c5
    have X6 := Ext.cell c6
    have X7 := Ext.cell c7
    have X8 := Ext.cell c8
    have X9 := Ext.cell c9
    have X10 := Ext.cell c10
    have X11 := Ext.cell c11
    have X12 := Ext.cell c12
    have X13 := Ext.cell c13
    have X14 := Ext.cell c14
    clear c0 c1 c2 c3 c4 c5 c6 c7 c8 c9 c10 c11 c12 c13 c14
    refine wq_region (by kernel_rfl) (by kernel_rfl) ?_
    repeat (refine Wq.step (fun K hK => ?_); go_simp; first | (refine hK _ ?_; clear hK K) | (refine ⟨_, fun _ => rfl, hK _ ?_⟩; clear hK K))
    refine Wq.step (fun K hK => ?_)
    go_simp
    apply Exists.intro
    refine ⟨fun _ => ?_, hK _ ?_⟩
    · exact Ext.call _ (cyc_v x _ x0 x1)
    clear hK K
    repeat (refine Wq.step (fun K hK => ?_); go_simp; first | (refine hK _ ?_; clear hK K) | (refine ⟨_, fun _ => rfl, hK _ ?_⟩; clear hK K))
    refine Wq.step (fun K hK => ?_)
    go_simp
    apply Exists.intro
    refine ⟨fun _ => ?_, hK _ ?_⟩
    · exact Ext.call _ (start_v c a _ _ _ HSX.out)
    clear hK K
    repeat (refine Wq.step (fun K hK => ?_); go_simp; first | (refine hK _ ?_; clear hK K) | (refine ⟨_, fun _ => rfl, hK _ ?_⟩; clear hK K))
    refine Wq.step (fun K hK => ?_)
    go_simp
    apply Exists.intro
    refine ⟨fun _ => ?_, hK _ ?_⟩
    · exact Ext.call _ (cyc_v y _ y0 y1)
    clear hK K
    repeat (refine Wq.step (fun K hK => ?_); go_simp; first | (refine hK _ ?_; clear hK K) | (refine ⟨_, fun _ => rfl, hK _ ?_⟩; clear hK K))
    refine Wq.step (fun K hK => ?_)
    go_simp
    apply Exists.intro
    refine ⟨fun _ => ?_, hK _ ?_⟩
    · exact Ext.call _ (start_v c b _ _ _ HSY.out)
    clear hK K
    repeat (refine Wq.step (fun K hK => ?_); go_simp; first | (refine hK _ ?_; clear hK K) | (refine ⟨_, fun _ => rfl, hK _ ?_⟩; clear hK K))
    refine Wq.nil ?_
    rintro _ ⟨u, rfl⟩
    obtain ⟨w3, hb⟩ := u
    simp only []
    have hx : w3.heap[w.heap.size]? = some (.cells (cfgA c) 27 (0, 0)) := by
      rw [hb.block _ (World.block_lt_of_cell? _ _ (X0 ⟨w2, Below.refl _ _⟩))]
      exact HX2.out
    have HB3 := Lib.hid (HB2.out.trans (hb.mono HB2.out.size))
    clear hb X0 X1 X2 X3 X4 X5 X6 X7 X8 X9 X10 X11 X12 X13 X14
    have c0 : w3.cell? ⟨w.heap.size, 0, none⟩ = some (.int .i64 c.n) := cell_of_row _ _ 0 _ _ _ hx
    have c1 : w3.cell? ⟨w.heap.size, 1, none⟩ = some (.int .i64 c.s) := cell_of_row _ _ 1 _ _ _ hx
    have c2 : w3.cell? ⟨w.heap.size, 2, none⟩ = some (.int .i64 c.t) := cell_of_row _ _ 2 _ _ _ hx
    have c3 : w3.cell? ⟨w.heap.size, 3, none⟩ = some (.int .i64 c.r0) := cell_of_row _ _ 3 _ _ _ hx
    have c4 : w3.cell? ⟨w.heap.size, 4, none⟩ = some (.int .i64 c.r1) := cell_of_row _ _ 4 _ _ _ hx
    have c5 : w3.cell? ⟨w.heap.size, 5, none⟩ = some (.int .i64 c.r2) := cell_of_row _ _ 5 _ _ _ hx
    have c6 : w3.cell? ⟨w.heap.size, 6, none⟩ = some (.int .i64 c.r3) := cell_of_row _ _ 6 _ _ _ hx
    have c7 : w3.cell? ⟨w.heap.size, 7, none⟩ = some (.int .i64 c.r4) := cell_of_row _ _ 7 _ _ _ hx
    have c8 : w3.cell? ⟨w.heap.size, 8, none⟩ = some (.int .i64 c.r5) := cell_of_row _ _ 8 _ _ _ hx
    have c9 : w3.cell? ⟨w.heap.size, 9, none⟩ = some (.int .i64 c.r6) := cell_of_row _ _ 9 _ _ _ hx
    have c10 : w3.cell? ⟨w.heap.size, 10, none⟩ = some (.int .i64 c.r7) := cell_of_row _ _ 10 _ _ _ hx
    have c11 : w3.cell? ⟨w.heap.size, 11, none⟩ = some (.int .i64 c.r8) := cell_of_row _ _ 11 _ _ _ hx
    have c12 : w3.cell? ⟨w.heap.size, 12, none⟩ = some (.int .i64 c.r9) := cell_of_row _ _ 12 _ _ _ hx
    have c13 : w3.cell? ⟨w.heap.size, 13, none⟩ = some (.int .i64 c.ra) := cell_of_row _ _ 13 _ _ _ hx
    have c14 : w3.cell? ⟨w.heap.size, 14, none⟩ = some (.int .i64 c.rb) := cell_of_row _ _ 14 _ _ _ hx
    have HX3 := Lib.hid hx
    clear hx
    go_wp2_with fail
    have X0 := Ext.cell c0
    have X1 := Ext.cell c1
    have X2 := Ext.cell c2
    have X3 := Ext.cell c3
    have X4 := Ext.cell c4
    have X5 := Ext.cell c5
    have X6 := Ext.cell c6
    have X7 := Ext.cell c7
    have X8 := Ext.cell c8
    have X9 := Ext.cell c9
    have X10 := Ext.cell c10
    have X11 := Ext.cell c11
    have X12 := Ext.cell c12
    have X13 := Ext.cell c13
    have X14 := Ext.cell c14
    clear c0 c1 c2 c3 c4 c5 c6 c7 c8 c9 c10 c11 c12 c13 c14
    refine wq_region (by kernel_rfl) (by kernel_rfl) ?_
    repeat (refine Wq.step (fun K hK => ?_); go_simp; first | (refine hK _ ?_; clear hK K) | (refine ⟨_, fun _ => rfl, hK _ ?_⟩; clear hK K))
    refine Wq.step (fun K hK => ?_)
    go_simp
    apply Exists.intro
    refine ⟨fun _ => ?_, hK _ ?_⟩
    · exact Ext.call _ (cyc_v x _ x0 x1)
    clear hK K
    repeat (refine Wq.step (fun K hK => ?_); go_simp; first | (refine hK _ ?_; clear hK K) | (refine ⟨_, fun _ => rfl, hK _ ?_⟩; clear hK K))
    refine Wq.step (fun K hK => ?_)
    go_simp
    apply Exists.intro
    refine ⟨fun _ => ?_, hK _ ?_⟩
    · exact Ext.call _ (done_v c a _ _ _ HDX.out)
    clear hK K
    repeat (refine Wq.step (fun K hK => ?_); go_simp; first | (refine hK _ ?_; clear hK K) | (refine ⟨_, fun _ => rfl, hK _ ?_⟩; clear hK K))
    refine Wq.step (fun K hK => ?_)
    go_simp
    apply Exists.intro
    refine ⟨fun _ => ?_, hK _ ?_⟩
    · exact Ext.call _ (cyc_v y _ y0 y1)
    clear hK K
    repeat (refine Wq.step (fun K hK => ?_); go_simp; first | (refine hK _ ?_; clear hK K) | (refine ⟨_, fun _ => rfl, hK _ ?_⟩; clear hK K))
    refine Wq.step (fun K hK => ?_)
    go_simp
    apply Exists.intro
    refine ⟨fun _ => ?_, hK _ ?_⟩
    · exact Ext.call _ (done_v c b _ _ _ HDY.out)
    clear hK K
    repeat (refine Wq.step (fun K hK => ?_); go_simp; first | (refine hK _ ?_; clear hK K) | (refine ⟨_, fun _ => rfl, hK _ ?_⟩; clear hK K))
    refine Wq.nil ?_
    rintro _ ⟨u, rfl⟩
    obtain ⟨w4, hb⟩ := u
    simp only []
    have hx : w4.heap[w.heap.size]? = some (.cells (cfgA c) 27 (0, 0)) := by
      rw [hb.block _ (World.block_lt_of_cell? _ _ (X0 ⟨w3, Below.refl _ _⟩))]
      exact HX3.out
    have HB4 := Lib.hid (HB3.out.trans (hb.mono HB3.out.size))
    clear hb X0 X1 X2 X3 X4 X5 X6 X7 X8 X9 X10 X11 X12 X13 X14
    have c0 : w4.cell? ⟨w.heap.size, 0, none⟩ = some (.int .i64 c.n) := cell_of_row _ _ 0 _ _ _ hx
    have c1 : w4.cell? ⟨w.heap.size, 1, none⟩ = some (.int .i64 c.s) := cell_of_row _ _ 1 _ _ _ hx
    have c2 : w4.cell? ⟨w.heap.size, 2, none⟩ = some (.int .i64 c.t) := cell_of_row _ _ 2 _ _ _ hx
    have c3 : w4.cell? ⟨w.heap.size, 3, none⟩ = some (.int .i64 c.r0) := cell_of_row _ _ 3 _ _ _ hx
    have c4 : w4.cell? ⟨w.heap.size, 4, none⟩ = some (.int .i64 c.r1) := cell_of_row _ _ 4 _ _ _ hx
    have c5 : w4.cell? ⟨w.heap.size, 5, none⟩ = some (.int .i64 c.r2) := cell_of_row _ _ 5 _ _ _ hx
    have c6 : w4.cell? ⟨w.heap.size, 6, none⟩ = some (.int .i64 c.r3) := cell_of_row _ _ 6 _ _ _ hx
    have c7 : w4.cell? ⟨w.heap.size, 7, none⟩ = some (.int .i64 c.r4) := cell_of_row _ _ 7 _ _ _ hx
    have c8 : w4.cell? ⟨w.heap.size, 8, none⟩ = some (.int .i64 c.r5) := cell_of_row _ _ 8 _ _ _ hx
    have c9 : w4.cell? ⟨w.heap.size, 9, none⟩ = some (.int .i64 c.r6) := cell_of_row _ _ 9 _ _ _ hx
    have c10 : w4.cell? ⟨w.heap.size, 10, none⟩ = some (.int .i64 c.r7) := cell_of_row _ _ 10 _ _ _ hx
    have c11 : w4.cell? ⟨w.heap.size, 11, none⟩ = some (.int .i64 c.r8) := cell_of_row _ _ 11 _ _ _ hx
    have c12 : w4.cell? ⟨w.heap.size, 12, none⟩ = some (.int .i64 c.r9) := cell_of_row _ _ 12 _ _ _ hx
    have c13 : w4.cell? ⟨w.heap.size, 13, none⟩ = some (.int .i64 c.ra) := cell_of_row _ _ 13 _ _ _ hx
    have c14 : w4.cell? ⟨w.heap.size, 14, none⟩ = some (.int .i64 c.rb) := cell_of_row _ _ 14 _ _ _ hx
    have HX4 := Lib.hid hx
    clear hx
    go_wp2_with fail
    go_loopg [74] 3 (fun g jv wr => ∃ (i : Nat) (wx : World), wx = wr ∧ jv = .int .i64 i ∧ 3 ≤ g + i ∧ ExRel w w4.heap.size c X M (P - 1) i wx)
    case atStart =>
      refine ⟨0, _, rfl, rfl, by omega, by omega, ?_, ?_, ?_⟩
      · rw [Below.heap_alloc _ _ _ (World.block_lt_of_cell? _ _ c0)]; exact HX4.out
      · exact heap_alloc_new w4 _
      · exact HB4.out.alloc HB4.out.size _
    case round =>
      obtain ⟨i, wr, rfl, rfl, hg, hi, hx, hr, hb⟩ := hrel
      clear c0 c1 c2 c3 c4 c5 c6 c7 c8 c9 c10 c11 c12 c13 c14
      have c0 : wr.cell? ⟨w.heap.size, 0, none⟩ = some (.int .i64 c.n) := cell_of_row _ _ 0 _ _ _ hx
      have c1 : wr.cell? ⟨w.heap.size, 1, none⟩ = some (.int .i64 c.s) := cell_of_row _ _ 1 _ _ _ hx
      have c2 : wr.cell? ⟨w.heap.size, 2, none⟩ = some (.int .i64 c.t) := cell_of_row _ _ 2 _ _ _ hx
      have c3 : wr.cell? ⟨w.heap.size, 3, none⟩ = some (.int .i64 c.r0) := cell_of_row _ _ 3 _ _ _ hx
      have c4 : wr.cell? ⟨w.heap.size, 4, none⟩ = some (.int .i64 c.r1) := cell_of_row _ _ 4 _ _ _ hx
      have c5 : wr.cell? ⟨w.heap.size, 5, none⟩ = some (.int .i64 c.r2) := cell_of_row _ _ 5 _ _ _ hx
      have c6 : wr.cell? ⟨w.heap.size, 6, none⟩ = some (.int .i64 c.r3) := cell_of_row _ _ 6 _ _ _ hx
      have c7 : wr.cell? ⟨w.heap.size, 7, none⟩ = some (.int .i64 c.r4) := cell_of_row _ _ 7 _ _ _ hx
      have c8 : wr.cell? ⟨w.heap.size, 8, none⟩ = some (.int .i64 c.r5) := cell_of_row _ _ 8 _ _ _ hx
      have c9 : wr.cell? ⟨w.heap.size, 9, none⟩ = some (.int .i64 c.r6) := cell_of_row _ _ 9 _ _ _ hx
      have c10 : wr.cell? ⟨w.heap.size, 10, none⟩ = some (.int .i64 c.r7) := cell_of_row _ _ 10 _ _ _ hx
      have c11 : wr.cell? ⟨w.heap.size, 11, none⟩ = some (.int .i64 c.r8) := cell_of_row _ _ 11 _ _ _ hx
      have c12 : wr.cell? ⟨w.heap.size, 12, none⟩ = some (.int .i64 c.r9) := cell_of_row _ _ 12 _ _ _ hx
      have c13 : wr.cell? ⟨w.heap.size, 13, none⟩ = some (.int .i64 c.ra) := cell_of_row _ _ 13 _ _ _ hx
      have c14 : wr.cell? ⟨w.heap.size, 14, none⟩ = some (.int .i64 c.rb) := cell_of_row _ _ 14 _ _ _ hx
      have HXR := Lib.hid hx
      have HRR := Lib.hid hr
      have HBR := Lib.hid hb
      by_cases hlt : i < 3
      · have hlt' : (i : Int) < 3 := by omega
        obtain ⟨z, d0, hz⟩ : ∃ z, wr.cell? ⟨w4.heap.size, i, none⟩ = some (.int .i64 z) ∧ ownr c z = a := by
          rcases (by omega : i = 0 ∨ i = 1 ∨ i = 2) with rfl | rfl | rfl
          · exact ⟨X, cell_of_row _ _ 0 _ _ _ hr, HO.out _ (by omega) (by omega)⟩
          · exact ⟨M, cell_of_row _ _ 1 _ _ _ hr, HO.out _ (by omega) (by omega)⟩
          · exact ⟨P - 1, cell_of_row _ _ 2 _ _ _ hr, HO.out _ (by omega) (by omega)⟩
        have HZ := Lib.hid hz
        have hwi : IntKind.i64.wrap ((i : Int) + 1) = (i : Int) + 1 := IntWalk.i64_in _ (by omega)
        clear hz hx hr hb
        go_wp2_with fail
        refine (owner_any c z _).mono ?_
        rintro e wo ⟨rfl, hb⟩
        rw [HZ.out]
        have hx : wo.heap[w.heap.size]? = some (.cells (cfgA c) 27 (0, 0)) := by
          rw [hb.block _ (World.block_lt_of_cell? _ _ c0)]; exact HXR.out
        have hr : wo.heap[w4.heap.size]? = some (.cells #[.int .i64 X, .int .i64 M, .int .i64 (P - 1)] 3 (0, 0)) := by
          rw [hb.block _ (World.block_lt_of_cell? _ _ d0)]; exact HRR.out
        have HRel := Lib.hid (And.intro hx (And.intro hr (HBR.out.trans (hb.mono HBR.out.size))))
        clear hb hx hr c0 c1 c2 c3 c4 c5 c6 c7 c8 c9 c10 c11 c12 c13 c14 d0
        go_wp2_with fail
        go_roundg (3 - (i + 1))
        case measure => go_light; omega
        case rel =>
          go_light
          exact ⟨i + 1, _, rfl, by go_num, by omega, by omega, HRel.out⟩
      · obtain rfl : i = 3 := by omega
        clear c0 c1 c2 c3 c4 c5 c6 c7 c8 c9 c10 c11 c12 c13 c14 hx hr hb
        by_cases hab : a = b
        · clear HA
          subst hab
          go_wp2_with fail
          go_ret
          go_light
          exact ⟨rfl, HBR.out⟩
        · have hA := HA.out hab
          have hab' : (a == b) = false := by simpa using hab
          by_cases hle : P ≤ Y
          · clear hA
            go_wp2_with fail
            go_ret
            go_light
            exact ⟨rfl, HBR.out⟩
          · have hle2 : Q ≤ X := by omega
            clear hA
            go_wp2_with fail
            go_ret
            go_light
            exact ⟨rfl, HBR.out⟩
end Go.Proofs.Ytjdkaagkaambkab
