/- BusMaxWait: the walk. -/
import Derived.Test.YtjdkaagkaambkabU
import Derived.Lib.MinMax
namespace Go.Proofs.Ytjdkaagkaambkab
open Go.RowKit Go.Proofs

/-- What both loops keep of the memory. -/
def MwRel (w : World) (c : Cfg) (wr : World) : Prop := wr.heap[w.heap.size]? = some (.cells (cfgA c) 27 (0, 0)) ∧ Below w.heap.size w wr

set_option maxHeartbeats 2000000 in
set_option maxRecDepth 1000000 in
theorem maxw_walk (c : Cfg) (x : Int) (w : World) (x0 : 0 ≤ x) (x1 : x ≤ 4294967295) : Calls Try.prog 6 #[cfgV c, .int .u32 x] w (TrueEnd w) := by
  obtain ⟨bv, hu⟩ : ∃ bv, vld c = bv := ⟨_, rfl⟩
  have HU := Lib.hid hu
  clear hu
  go_enter Try.func6, Try.ntmps6
  go_wp2_with fail
  refine (awake_any _).mono ?_
  rintro e w1 ⟨rfl, hb⟩
  have hx : w1.heap[w.heap.size]? = some (.cells (cfgA c) 27 (0, 0)) := by
    rw [hb.block _ (by simp)]
    exact heap_alloc_new w _
  have HB1 := Lib.hid (((Below.refl _ _).alloc (Nat.le_refl _) _).trans (hb.mono (by simp)))
  have c0 : w1.cell? ⟨w.heap.size, 0, none⟩ = some (.int .i64 c.n) := cell_of_row _ _ 0 _ _ _ hx
  have c1 : w1.cell? ⟨w.heap.size, 1, none⟩ = some (.int .i64 c.s) := cell_of_row _ _ 1 _ _ _ hx
  have c2 : w1.cell? ⟨w.heap.size, 2, none⟩ = some (.int .i64 c.t) := cell_of_row _ _ 2 _ _ _ hx
  have c3 : w1.cell? ⟨w.heap.size, 3, none⟩ = some (.int .i64 c.r0) := cell_of_row _ _ 3 _ _ _ hx
  have c4 : w1.cell? ⟨w.heap.size, 4, none⟩ = some (.int .i64 c.r1) := cell_of_row _ _ 4 _ _ _ hx
  have c5 : w1.cell? ⟨w.heap.size, 5, none⟩ = some (.int .i64 c.r2) := cell_of_row _ _ 5 _ _ _ hx
  have c6 : w1.cell? ⟨w.heap.size, 6, none⟩ = some (.int .i64 c.r3) := cell_of_row _ _ 6 _ _ _ hx
  have c7 : w1.cell? ⟨w.heap.size, 7, none⟩ = some (.int .i64 c.r4) := cell_of_row _ _ 7 _ _ _ hx
  have c8 : w1.cell? ⟨w.heap.size, 8, none⟩ = some (.int .i64 c.r5) := cell_of_row _ _ 8 _ _ _ hx
  have c9 : w1.cell? ⟨w.heap.size, 9, none⟩ = some (.int .i64 c.r6) := cell_of_row _ _ 9 _ _ _ hx
  have c10 : w1.cell? ⟨w.heap.size, 10, none⟩ = some (.int .i64 c.r7) := cell_of_row _ _ 10 _ _ _ hx
  have c11 : w1.cell? ⟨w.heap.size, 11, none⟩ = some (.int .i64 c.r8) := cell_of_row _ _ 11 _ _ _ hx
  have c12 : w1.cell? ⟨w.heap.size, 12, none⟩ = some (.int .i64 c.r9) := cell_of_row _ _ 12 _ _ _ hx
  have c13 : w1.cell? ⟨w.heap.size, 13, none⟩ = some (.int .i64 c.ra) := cell_of_row _ _ 13 _ _ _ hx
  have c14 : w1.cell? ⟨w.heap.size, 14, none⟩ = some (.int .i64 c.rb) := cell_of_row _ _ 14 _ _ _ hx
  have HX1 := Lib.hid hx
  clear hb hx
  go_wp2_with fail
  refine (valid_any c _).mono ?_
  rintro e w2 ⟨rfl, hb⟩
  rw [HU.out]
  have hx : w2.heap[w.heap.size]? = some (.cells (cfgA c) 27 (0, 0)) := by
    rw [hb.block _ (World.block_lt_of_cell? _ _ c0)]
    exact HX1.out
  have HB2 := Lib.hid (HB1.out.trans (hb.mono HB1.out.size))
  clear hb c0 c1 c2 c3 c4 c5 c6 c7 c8 c9 c10 c11 c12 c13 c14
  have c0 : w2.cell? ⟨w.heap.size, 0, none⟩ = some (.int .i64 c.n) := cell_of_row _ _ 0 _ _ _ hx
  have c1 : w2.cell? ⟨w.heap.size, 1, none⟩ = some (.int .i64 c.s) := cell_of_row _ _ 1 _ _ _ hx
  have c2 : w2.cell? ⟨w.heap.size, 2, none⟩ = some (.int .i64 c.t) := cell_of_row _ _ 2 _ _ _ hx
  have c3 : w2.cell? ⟨w.heap.size, 3, none⟩ = some (.int .i64 c.r0) := cell_of_row _ _ 3 _ _ _ hx
  have c4 : w2.cell? ⟨w.heap.size, 4, none⟩ = some (.int .i64 c.r1) := cell_of_row _ _ 4 _ _ _ hx
  have c5 : w2.cell? ⟨w.heap.size, 5, none⟩ = some (.int .i64 c.r2) := cell_of_row _ _ 5 _ _ _ hx
  have c6 : w2.cell? ⟨w.heap.size, 6, none⟩ = some (.int .i64 c.r3) := cell_of_row _ _ 6 _ _ _ hx
  have c7 : w2.cell? ⟨w.heap.size, 7, none⟩ = some (.int .i64 c.r4) := cell_of_row _ _ 7 _ _ _ hx
  have c8 : w2.cell? ⟨w.heap.size, 8, none⟩ = some (.int .i64 c.r5) := cell_of_row _ _ 8 _ _ _ hx
  have c9 : w2.cell? ⟨w.heap.size, 9, none⟩ = some (.int .i64 c.r6) := cell_of_row _ _ 9 _ _ _ hx
  have c10 : w2.cell? ⟨w.heap.size, 10, none⟩ = some (.int .i64 c.r7) := cell_of_row _ _ 10 _ _ _ hx
  have c11 : w2.cell? ⟨w.heap.size, 11, none⟩ = some (.int .i64 c.r8) := cell_of_row _ _ 11 _ _ _ hx
  have c12 : w2.cell? ⟨w.heap.size, 12, none⟩ = some (.int .i64 c.r9) := cell_of_row _ _ 12 _ _ _ hx
  have c13 : w2.cell? ⟨w.heap.size, 13, none⟩ = some (.int .i64 c.ra) := cell_of_row _ _ 13 _ _ _ hx
  have c14 : w2.cell? ⟨w.heap.size, 14, none⟩ = some (.int .i64 c.rb) := cell_of_row _ _ 14 _ _ _ hx
  have HX2 := Lib.hid hx
  clear hx
  cases bv with
  | false =>
    clear c0 c1 c2 c3 c4 c5 c6 c7 c8 c9 c10 c11 c12 c13 c14
    go_wp2_with fail
    refine (awake_any _).mono ?_
    rintro e w3 ⟨rfl, hb⟩
    have HB3 := Lib.hid (HB2.out.trans (hb.mono HB2.out.size))
    clear hb
    go_wp2_with fail
    go_ret
    go_light
    exact ⟨rfl, HB3.out⟩
  | true =>
    by_cases s40 : c.s > 40
    · skip
      clear c0 c2 c3 c4 c5 c6 c7 c8 c9 c10 c11 c12 c13 c14
      go_wp2_with fail
      refine (awake_any _).mono ?_
      rintro e w3 ⟨rfl, hb⟩
      have HB3 := Lib.hid (HB2.out.trans (hb.mono HB2.out.size))
      clear hb
      go_wp2_with fail
      go_ret
      go_light
      exact ⟨rfl, HB3.out⟩
    have s40' : c.s ≤ 40 := by omega
    clear s40
    obtain ⟨n1, n4, t1, ts, s6⟩ := vld_n HU.out
    have zb := mwt_bounds n1 n4 (show 1 ≤ c.s by omega) s6
    have pb1 : 1 * 1 ≤ c.n * c.s := Int.mul_le_mul n1 (by omega) (by omega) (by omega)
    have pb2 : c.n * c.s ≤ 4 * 40 := Int.mul_le_mul n4 s40' (by omega) (by omega)
    have HM : Hid (mwt c = (c.n - 1) * c.s + c.t - 1) := Lib.hid (by rw [mwt, if_pos HU.out])
    have HT : Hid (mtr c = (c.n - 1) * c.s + c.t - 1 + c.t) := Lib.hid (by rw [mtr, if_pos HU.out])
    have HWL : Hid (∀ core y, 0 ≤ core → core < c.n → strt0 c core y ≤ y + ((c.n - 1) * c.s + c.t - 1)) := Lib.hid fun core y h0 h1 => wait_le c core y HU.out h0 h1
    have HWE : Hid (∀ core i, 0 ≤ core → core < c.n → (i : Nat) = c.n * c.s → wst c core x i = (c.n - 1) * c.s + c.t - 1) := Lib.hid fun core i h0 h1 h2 => wst_end c core x HU.out h0 h1 i h2
    have HWB : Hid (∀ core i, 0 ≤ core → core < c.n → 0 ≤ wst c core x i ∧ wst c core x i ≤ (c.n - 1) * c.s + c.t - 1) := Lib.hid fun core i h0 h1 => wst_le c core x HU.out h0 h1 i
    obtain ⟨P, hP⟩ : ∃ P, c.n * c.s = P := ⟨_, rfl⟩
    obtain ⟨Z, hZ⟩ : ∃ Z, (c.n - 1) * c.s = Z := ⟨_, rfl⟩
    rw [hP] at pb1 pb2 HWE
    rw [hZ] at zb HM HT HWL HWE HWB
    obtain ⟨W, hW⟩ : ∃ W, Z + c.t - 1 = W := ⟨_, rfl⟩
    rw [hW] at HM HT HWL HWE HWB
    obtain ⟨T, hT⟩ : ∃ T, W + c.t = T := ⟨_, rfl⟩
    rw [hT] at HT
    have wb : 0 ≤ W ∧ W ≤ 3000040 := by omega
    have tb : 0 ≤ T ∧ T ≤ 4000040 := by omega
    have w1_ : IntKind.i64.wrap (c.n - 1) = c.n - 1 := IntWalk.i64_in _ (by omega)
    have w2_ : IntKind.i64.wrap Z = Z := IntWalk.i64_in _ (by omega)
    have w3_ : IntKind.i64.wrap (Z + c.t) = Z + c.t := IntWalk.i64_in _ (by omega)
    have w4_ : IntKind.i64.wrap W = W := IntWalk.i64_in _ (by omega)
    have w5_ : IntKind.i64.wrap T = T := IntWalk.i64_in _ (by omega)
    have w6_ : IntKind.i64.wrap P = P := IntWalk.i64_in _ (by omega)
    have w7_ : IntKind.i64.wrap (x + P) = x + P := IntWalk.i64_in _ (by omega)
    have q1 : (W != W) = false := by simp
    have q2 : (T != T) = false := by simp
    go_wp2_with fail
    have X0 := Ext.cell c0
    have X1 := Ext.cell c1
    have X2 := Ext.cell c2
    have X3 := Ext.cell c3
    have X4 := Ext.cell c4
    have X5 := Ext.cell c5
    have X6 := Ext.cell c6
    have X7 := Ext.cell c7
    have X8 := Ext.cell c8
    have X9 := Ext.cell c9
    have X10 := Ext.cell c10
    have X11 := Ext.cell c11
    have X12 := Ext.cell c12
    have X13 := Ext.cell c13
    have X14 := Ext.cell c14
    clear c0 c1 c2 c3 c4 c5 c6 c7 c8 c9 c10 c11 c12 c13 c14
    refine wq_region (by kernel_rfl) (by kernel_rfl) ?_
    repeat (refine Wq.step (fun K hK => ?_); go_simp; first | (refine hK _ ?_; clear hK K) | (refine ⟨_, fun _ => rfl, hK _ ?_⟩; clear hK K))
    refine Wq.step (fun K hK => ?_)
    go_simp
    apply Exists.intro
    refine ⟨fun _ => ?_, hK _ ?_⟩
    · exact Ext.call _ (cyc_v x _ x0 x1)
    clear hK K
    repeat (refine Wq.step (fun K hK => ?_); go_simp; first | (refine hK _ ?_; clear hK K) | (refine ⟨_, fun _ => rfl, hK _ ?_⟩; clear hK K))
    refine Wq.step (fun K hK => ?_)
    go_simp
    apply Exists.intro
    refine ⟨fun _ => ?_, hK _ ?_⟩
    · exact Ext.call _ (maxwait_b c W _ HM.out)
    clear hK K
    repeat (refine Wq.step (fun K hK => ?_); go_simp; first | (refine hK _ ?_; clear hK K) | (refine ⟨_, fun _ => rfl, hK _ ?_⟩; clear hK K))
    refine Wq.nil ?_
    rintro _ ⟨u, rfl⟩
    obtain ⟨w3, hb⟩ := u
    simp only []
    have hx : w3.heap[w.heap.size]? = some (.cells (cfgA c) 27 (0, 0)) := by
      rw [hb.block _ (World.block_lt_of_cell? _ _ (X0 ⟨w2, Below.refl _ _⟩))]
      exact HX2.out
    have HB3 := Lib.hid (HB2.out.trans (hb.mono HB2.out.size))
    clear hb X0 X1 X2 X3 X4 X5 X6 X7 X8 X9 X10 X11 X12 X13 X14
    have c0 : w3.cell? ⟨w.heap.size, 0, none⟩ = some (.int .i64 c.n) := cell_of_row _ _ 0 _ _ _ hx
    have c1 : w3.cell? ⟨w.heap.size, 1, none⟩ = some (.int .i64 c.s) := cell_of_row _ _ 1 _ _ _ hx
    have c2 : w3.cell? ⟨w.heap.size, 2, none⟩ = some (.int .i64 c.t) := cell_of_row _ _ 2 _ _ _ hx
    have c3 : w3.cell? ⟨w.heap.size, 3, none⟩ = some (.int .i64 c.r0) := cell_of_row _ _ 3 _ _ _ hx
    have c4 : w3.cell? ⟨w.heap.size, 4, none⟩ = some (.int .i64 c.r1) := cell_of_row _ _ 4 _ _ _ hx
    have c5 : w3.cell? ⟨w.heap.size, 5, none⟩ = some (.int .i64 c.r2) := cell_of_row _ _ 5 _ _ _ hx
    have c6 : w3.cell? ⟨w.heap.size, 6, none⟩ = some (.int .i64 c.r3) := cell_of_row _ _ 6 _ _ _ hx
    have c7 : w3.cell? ⟨w.heap.size, 7, none⟩ = some (.int .i64 c.r4) := cell_of_row _ _ 7 _ _ _ hx
    have c8 : w3.cell? ⟨w.heap.size, 8, none⟩ = some (.int .i64 c.r5) := cell_of_row _ _ 8 _ _ _ hx
    have c9 : w3.cell? ⟨w.heap.size, 9, none⟩ = some (.int .i64 c.r6) := cell_of_row _ _ 9 _ _ _ hx
    have c10 : w3.cell? ⟨w.heap.size, 10, none⟩ = some (.int .i64 c.r7) := cell_of_row _ _ 10 _ _ _ hx
    have c11 : w3.cell? ⟨w.heap.size, 11, none⟩ = some (.int .i64 c.r8) := cell_of_row _ _ 11 _ _ _ hx
    have c12 : w3.cell? ⟨w.heap.size, 12, none⟩ = some (.int .i64 c.r9) := cell_of_row _ _ 12 _ _ _ hx
    have c13 : w3.cell? ⟨w.heap.size, 13, none⟩ = some (.int .i64 c.ra) := cell_of_row _ _ 13 _ _ _ hx
    have c14 : w3.cell? ⟨w.heap.size, 14, none⟩ = some (.int .i64 c.rb) := cell_of_row _ _ 14 _ _ _ hx
    have HX3 := Lib.hid hx
    clear hx
    go_wp2_with fail
    have X0 := Ext.cell c0
    have X1 := Ext.cell c1
    have X2 := Ext.cell c2
    have X3 := Ext.cell c3
    have X4 := Ext.cell c4
    have X5 := Ext.cell c5
    have X6 := Ext.cell c6
    have X7 := Ext.cell c7
    have X8 := Ext.cell c8
    have X9 := Ext.cell c9
    have X10 := Ext.cell c10
    have X11 := Ext.cell c11
    have X12 := Ext.cell c12
    have X13 := Ext.cell c13
    have X14 := Ext.cell c14
    clear c0 c1 c2 c3 c4 c5 c6 c7 c8 c9 c10 c11 c12 c13 c14
    refine wq_region (by kernel_rfl) (by kernel_rfl) ?_
    repeat (refine Wq.step (fun K hK => ?_); go_simp; first | (refine hK _ ?_; clear hK K) | (refine ⟨_, fun _ => rfl, hK _ ?_⟩; clear hK K))
    refine Wq.step (fun K hK => ?_)
    go_simp
    apply Exists.intro
    refine ⟨fun _ => ?_, hK _ ?_⟩
    · exact Ext.call _ (mtr_v c T _ HT.out)
    clear hK K
    repeat (refine Wq.step (fun K hK => ?_); go_simp; first | (refine hK _ ?_; clear hK K) | (refine ⟨_, fun _ => rfl, hK _ ?_⟩; clear hK K))
    refine Wq.nil ?_
    rintro _ ⟨u, rfl⟩
    obtain ⟨w4, hb⟩ := u
    simp only []
    have hx : w4.heap[w.heap.size]? = some (.cells (cfgA c) 27 (0, 0)) := by
      rw [hb.block _ (World.block_lt_of_cell? _ _ (X0 ⟨w3, Below.refl _ _⟩))]
      exact HX3.out
    have HB4 := Lib.hid (HB3.out.trans (hb.mono HB3.out.size))
    clear hb X0 X1 X2 X3 X4 X5 X6 X7 X8 X9 X10 X11 X12 X13 X14
    have c0 : w4.cell? ⟨w.heap.size, 0, none⟩ = some (.int .i64 c.n) := cell_of_row _ _ 0 _ _ _ hx
    have c1 : w4.cell? ⟨w.heap.size, 1, none⟩ = some (.int .i64 c.s) := cell_of_row _ _ 1 _ _ _ hx
    have c2 : w4.cell? ⟨w.heap.size, 2, none⟩ = some (.int .i64 c.t) := cell_of_row _ _ 2 _ _ _ hx
    have c3 : w4.cell? ⟨w.heap.size, 3, none⟩ = some (.int .i64 c.r0) := cell_of_row _ _ 3 _ _ _ hx
    have c4 : w4.cell? ⟨w.heap.size, 4, none⟩ = some (.int .i64 c.r1) := cell_of_row _ _ 4 _ _ _ hx
    have c5 : w4.cell? ⟨w.heap.size, 5, none⟩ = some (.int .i64 c.r2) := cell_of_row _ _ 5 _ _ _ hx
    have c6 : w4.cell? ⟨w.heap.size, 6, none⟩ = some (.int .i64 c.r3) := cell_of_row _ _ 6 _ _ _ hx
    have c7 : w4.cell? ⟨w.heap.size, 7, none⟩ = some (.int .i64 c.r4) := cell_of_row _ _ 7 _ _ _ hx
    have c8 : w4.cell? ⟨w.heap.size, 8, none⟩ = some (.int .i64 c.r5) := cell_of_row _ _ 8 _ _ _ hx
    have c9 : w4.cell? ⟨w.heap.size, 9, none⟩ = some (.int .i64 c.r6) := cell_of_row _ _ 9 _ _ _ hx
    have c10 : w4.cell? ⟨w.heap.size, 10, none⟩ = some (.int .i64 c.r7) := cell_of_row _ _ 10 _ _ _ hx
    have c11 : w4.cell? ⟨w.heap.size, 11, none⟩ = some (.int .i64 c.r8) := cell_of_row _ _ 11 _ _ _ hx
    have c12 : w4.cell? ⟨w.heap.size, 12, none⟩ = some (.int .i64 c.r9) := cell_of_row _ _ 12 _ _ _ hx
    have c13 : w4.cell? ⟨w.heap.size, 13, none⟩ = some (.int .i64 c.ra) := cell_of_row _ _ 13 _ _ _ hx
    have c14 : w4.cell? ⟨w.heap.size, 14, none⟩ = some (.int .i64 c.rb) := cell_of_row _ _ 14 _ _ _ hx
    have HX4 := Lib.hid hx
    clear hx
    go_wp2_with fail
    clear q1 q2
    go_loopg [51] c.n.toNat (fun g jv wr => ∃ (i : Nat) (wx : World), wx = wr ∧ jv = .int .i64 i ∧ (i : Int) ≤ c.n ∧ c.n ≤ g + i ∧ MwRel w c wx)
    case atStart => exact ⟨0, _, rfl, rfl, by omega, by omega, HX4.out, HB4.out⟩
    case round =>
      obtain ⟨i, wr, rfl, rfl, hi, hg, hx, hb⟩ := hrel
      clear c0 c1 c2 c3 c4 c5 c6 c7 c8 c9 c10 c11 c12 c13 c14
      have c0 : wr.cell? ⟨w.heap.size, 0, none⟩ = some (.int .i64 c.n) := cell_of_row _ _ 0 _ _ _ hx
      have c1 : wr.cell? ⟨w.heap.size, 1, none⟩ = some (.int .i64 c.s) := cell_of_row _ _ 1 _ _ _ hx
      have c2 : wr.cell? ⟨w.heap.size, 2, none⟩ = some (.int .i64 c.t) := cell_of_row _ _ 2 _ _ _ hx
      have c3 : wr.cell? ⟨w.heap.size, 3, none⟩ = some (.int .i64 c.r0) := cell_of_row _ _ 3 _ _ _ hx
      have c4 : wr.cell? ⟨w.heap.size, 4, none⟩ = some (.int .i64 c.r1) := cell_of_row _ _ 4 _ _ _ hx
      have c5 : wr.cell? ⟨w.heap.size, 5, none⟩ = some (.int .i64 c.r2) := cell_of_row _ _ 5 _ _ _ hx
      have c6 : wr.cell? ⟨w.heap.size, 6, none⟩ = some (.int .i64 c.r3) := cell_of_row _ _ 6 _ _ _ hx
      have c7 : wr.cell? ⟨w.heap.size, 7, none⟩ = some (.int .i64 c.r4) := cell_of_row _ _ 7 _ _ _ hx
      have c8 : wr.cell? ⟨w.heap.size, 8, none⟩ = some (.int .i64 c.r5) := cell_of_row _ _ 8 _ _ _ hx
      have c9 : wr.cell? ⟨w.heap.size, 9, none⟩ = some (.int .i64 c.r6) := cell_of_row _ _ 9 _ _ _ hx
      have c10 : wr.cell? ⟨w.heap.size, 10, none⟩ = some (.int .i64 c.r7) := cell_of_row _ _ 10 _ _ _ hx
      have c11 : wr.cell? ⟨w.heap.size, 11, none⟩ = some (.int .i64 c.r8) := cell_of_row _ _ 11 _ _ _ hx
      have c12 : wr.cell? ⟨w.heap.size, 12, none⟩ = some (.int .i64 c.r9) := cell_of_row _ _ 12 _ _ _ hx
      have c13 : wr.cell? ⟨w.heap.size, 13, none⟩ = some (.int .i64 c.ra) := cell_of_row _ _ 13 _ _ _ hx
      have c14 : wr.cell? ⟨w.heap.size, 14, none⟩ = some (.int .i64 c.rb) := cell_of_row _ _ 14 _ _ _ hx
      have HXR := Lib.hid hx
      have HBR := Lib.hid hb
      clear hx hb
      by_cases hlt : (i : Int) < c.n
      · have hwi : IntKind.i64.wrap ((i : Int) + 1) = (i : Int) + 1 := IntWalk.i64_in _ (by omega)
        go_wp2_with fail
        go_loopg [8, 9] P.toNat (fun g vo jv wq => ∃ (j : Nat) (wx : World), wx = wq ∧ vo = .int .i64 (wst c i x j) ∧ jv = .int .i64 (x + j) ∧ (j : Int) ≤ P ∧ P ≤ g + j ∧ MwRel w c wx)
        case atStart => exact ⟨0, _, rfl, rfl, by simp, by omega, by omega, HXR.out, HBR.out⟩
        case round =>
          obtain ⟨j, wq, rfl, rfl, rfl, hj, hg2, hx, hb⟩ := hrel
          clear c0 c1 c2 c3 c4 c5 c6 c7 c8 c9 c10 c11 c12 c13 c14
          have c0 : wq.cell? ⟨w.heap.size, 0, none⟩ = some (.int .i64 c.n) := cell_of_row _ _ 0 _ _ _ hx
          have c1 : wq.cell? ⟨w.heap.size, 1, none⟩ = some (.int .i64 c.s) := cell_of_row _ _ 1 _ _ _ hx
          have c2 : wq.cell? ⟨w.heap.size, 2, none⟩ = some (.int .i64 c.t) := cell_of_row _ _ 2 _ _ _ hx
          have c3 : wq.cell? ⟨w.heap.size, 3, none⟩ = some (.int .i64 c.r0) := cell_of_row _ _ 3 _ _ _ hx
          have c4 : wq.cell? ⟨w.heap.size, 4, none⟩ = some (.int .i64 c.r1) := cell_of_row _ _ 4 _ _ _ hx
          have c5 : wq.cell? ⟨w.heap.size, 5, none⟩ = some (.int .i64 c.r2) := cell_of_row _ _ 5 _ _ _ hx
          have c6 : wq.cell? ⟨w.heap.size, 6, none⟩ = some (.int .i64 c.r3) := cell_of_row _ _ 6 _ _ _ hx
          have c7 : wq.cell? ⟨w.heap.size, 7, none⟩ = some (.int .i64 c.r4) := cell_of_row _ _ 7 _ _ _ hx
          have c8 : wq.cell? ⟨w.heap.size, 8, none⟩ = some (.int .i64 c.r5) := cell_of_row _ _ 8 _ _ _ hx
          have c9 : wq.cell? ⟨w.heap.size, 9, none⟩ = some (.int .i64 c.r6) := cell_of_row _ _ 9 _ _ _ hx
          have c10 : wq.cell? ⟨w.heap.size, 10, none⟩ = some (.int .i64 c.r7) := cell_of_row _ _ 10 _ _ _ hx
          have c11 : wq.cell? ⟨w.heap.size, 11, none⟩ = some (.int .i64 c.r8) := cell_of_row _ _ 11 _ _ _ hx
          have c12 : wq.cell? ⟨w.heap.size, 12, none⟩ = some (.int .i64 c.r9) := cell_of_row _ _ 12 _ _ _ hx
          have c13 : wq.cell? ⟨w.heap.size, 13, none⟩ = some (.int .i64 c.ra) := cell_of_row _ _ 13 _ _ _ hx
          have c14 : wq.cell? ⟨w.heap.size, 14, none⟩ = some (.int .i64 c.rb) := cell_of_row _ _ 14 _ _ _ hx
          have HXQ := Lib.hid hx
          have HBQ := Lib.hid hb
          clear hx hb
          have wob := HWB.out i j (by omega) hlt
          obtain ⟨Wo, hWo⟩ : ∃ Wo, wst c i x j = Wo := ⟨_, rfl⟩
          by_cases hjl : (j : Int) < P
          · have hlt2 : x + (j : Int) < x + P := by omega
            have us := use_ok HU.out (core := i) (x := x + j) (by omega) hlt (by omega) (by omega)
            have sb := strt0_bounds c i (x + j) us
            have sl := HWL.out i (x + j) (by omega) hlt
            have hnext : wst c i x (j + 1) = max (wst c i x j) (strt0 c i (x + j) - (x + j)) := rfl
            have HS : Hid (strt c i (x + j) = strt0 c i (x + j)) := Lib.hid (by rw [strt, if_pos us])
            have HD : Hid (don c i (x + j) = strt0 c i (x + j) + c.t) := Lib.hid (by rw [don, if_pos us])
            clear us
            rw [hWo] at hnext wob ⊢
            generalize strt0 c i (x + j) = S at *
            obtain ⟨V, hV⟩ : ∃ V, S - (x + (j : Int)) = V := ⟨_, rfl⟩
            obtain ⟨D, hD⟩ : ∃ D, S + c.t = D := ⟨_, rfl⟩
            obtain ⟨D2, hD2⟩ : ∃ D2, D - (x + (j : Int)) = D2 := ⟨_, rfl⟩
            rw [hV] at hnext
            rw [hD] at HD
            have vb : 0 ≤ V ∧ V ≤ W := by omega
            have db : D2 ≤ T ∧ 0 ≤ D2 := by omega
            have d1 : decide (V < 0) = false := decide_eq_false (by omega)
            have d2 : decide (V > W) = false := decide_eq_false (by omega)
            have d2' : decide (W < V) = false := decide_eq_false (by omega)
            have d3 : decide (D2 > T) = false := decide_eq_false (by omega)
            have d3' : decide (T < D2) = false := decide_eq_false (by omega)
            have v1_ : IntKind.i64.wrap V = V := IntWalk.i64_in _ (by omega)
            have v2_ : IntKind.i64.wrap D2 = D2 := IntWalk.i64_in _ (by omega)
            have v3_ : IntKind.i64.wrap (x + (j : Int) + 1) = x + (j : Int) + 1 := IntWalk.i64_in _ (by omega)
            obtain ⟨Wn, hWn⟩ : ∃ Wn, max Wo V = Wn := ⟨_, rfl⟩
            have HN := Lib.hid (hnext.trans hWn)
            clear hnext hD hWo
            go_wp2_with fail
            refine (start_any c i (x + j) _).mono ?_
            rintro e wo ⟨rfl, hb⟩
            rw [HS.out]
            have hx : wo.heap[w.heap.size]? = some (.cells (cfgA c) 27 (0, 0)) := by
              rw [hb.block _ (World.block_lt_of_cell? _ _ c0)]; exact HXQ.out
            have HB9 := Lib.hid (HBQ.out.trans (hb.mono HBQ.out.size))
            clear hb c0 c1 c2 c3 c4 c5 c6 c7 c8 c9 c10 c11 c12 c13 c14
            have c0 : wo.cell? ⟨w.heap.size, 0, none⟩ = some (.int .i64 c.n) := cell_of_row _ _ 0 _ _ _ hx
            have c1 : wo.cell? ⟨w.heap.size, 1, none⟩ = some (.int .i64 c.s) := cell_of_row _ _ 1 _ _ _ hx
            have c2 : wo.cell? ⟨w.heap.size, 2, none⟩ = some (.int .i64 c.t) := cell_of_row _ _ 2 _ _ _ hx
            have c3 : wo.cell? ⟨w.heap.size, 3, none⟩ = some (.int .i64 c.r0) := cell_of_row _ _ 3 _ _ _ hx
            have c4 : wo.cell? ⟨w.heap.size, 4, none⟩ = some (.int .i64 c.r1) := cell_of_row _ _ 4 _ _ _ hx
            have c5 : wo.cell? ⟨w.heap.size, 5, none⟩ = some (.int .i64 c.r2) := cell_of_row _ _ 5 _ _ _ hx
            have c6 : wo.cell? ⟨w.heap.size, 6, none⟩ = some (.int .i64 c.r3) := cell_of_row _ _ 6 _ _ _ hx
            have c7 : wo.cell? ⟨w.heap.size, 7, none⟩ = some (.int .i64 c.r4) := cell_of_row _ _ 7 _ _ _ hx
            have c8 : wo.cell? ⟨w.heap.size, 8, none⟩ = some (.int .i64 c.r5) := cell_of_row _ _ 8 _ _ _ hx
            have c9 : wo.cell? ⟨w.heap.size, 9, none⟩ = some (.int .i64 c.r6) := cell_of_row _ _ 9 _ _ _ hx
            have c10 : wo.cell? ⟨w.heap.size, 10, none⟩ = some (.int .i64 c.r7) := cell_of_row _ _ 10 _ _ _ hx
            have c11 : wo.cell? ⟨w.heap.size, 11, none⟩ = some (.int .i64 c.r8) := cell_of_row _ _ 11 _ _ _ hx
            have c12 : wo.cell? ⟨w.heap.size, 12, none⟩ = some (.int .i64 c.r9) := cell_of_row _ _ 12 _ _ _ hx
            have c13 : wo.cell? ⟨w.heap.size, 13, none⟩ = some (.int .i64 c.ra) := cell_of_row _ _ 13 _ _ _ hx
            have c14 : wo.cell? ⟨w.heap.size, 14, none⟩ = some (.int .i64 c.rb) := cell_of_row _ _ 14 _ _ _ hx
            have HX9 := Lib.hid hx
            clear hx
            go_wp2_with fail
            have X0 := Ext.cell c0
            have X1 := Ext.cell c1
            have X2 := Ext.cell c2
            have X3 := Ext.cell c3
            have X4 := Ext.cell c4
            have X5 := Ext.cell c5
            have X6 := Ext.cell c6
            have X7 := Ext.cell c7
            have X8 := Ext.cell c8
            have X9 := Ext.cell c9
            have X10 := Ext.cell c10
            have X11 := Ext.cell c11
            have X12 := Ext.cell c12
            have X13 := Ext.cell c13
            have X14 := Ext.cell c14
            clear c0 c1 c2 c3 c4 c5 c6 c7 c8 c9 c10 c11 c12 c13 c14
            refine wq_region (by kernel_rfl) (by kernel_rfl) ?_
            repeat (refine Wq.step (fun K hK => ?_); go_simp; first | (refine hK _ ?_; clear hK K) | (refine ⟨_, fun _ => rfl, hK _ ?_⟩; clear hK K))
            refine Wq.step (fun K hK => ?_)
            go_simp
            apply Exists.intro
            refine ⟨fun _ => ?_, hK _ ?_⟩
            · exact Ext.call _ (done_v c i (x + j) D _ HD.out)
            clear hK K
            repeat (refine Wq.step (fun K hK => ?_); go_simp; first | (refine hK _ ?_; clear hK K) | (refine ⟨_, fun _ => rfl, hK _ ?_⟩; clear hK K))
            refine Wq.step (fun K hK => ?_)
            go_simp
            apply Exists.intro
            refine ⟨fun _ => ?_, hK _ ?_⟩
            · exact Ext.call _ (mtr_v c T _ HT.out)
            clear hK K
            repeat (refine Wq.step (fun K hK => ?_); go_simp; first | (refine hK _ ?_; clear hK K) | (refine ⟨_, fun _ => rfl, hK _ ?_⟩; clear hK K))
            refine Wq.nil ?_
            rintro _ ⟨u, rfl⟩
            obtain ⟨w10, hb⟩ := u
            simp only []
            have hx : w10.heap[w.heap.size]? = some (.cells (cfgA c) 27 (0, 0)) := by
              rw [hb.block _ (World.block_lt_of_cell? _ _ (X0 ⟨wo, Below.refl _ _⟩))]
              exact HX9.out
            have HRel := Lib.hid (And.intro hx (HB9.out.trans (hb.mono HB9.out.size)))
            clear hb hx X0 X1 X2 X3 X4 X5 X6 X7 X8 X9 X10 X11 X12 X13 X14
            go_wp2_with fail
            go_roundg (P.toNat - (j + 1))
            case measure => go_light; omega
            case rel =>
              go_light
              exact ⟨j + 1, _, rfl, by rw [HN.out], congrArg (Value.int .i64) (by omega), by omega, by omega, HRel.out⟩
          · have hW2 : Wo = W := by rw [← hWo]; exact HWE.out i j (by omega) hlt (by omega)
            have hjl2 : ¬ x + (j : Int) < x + P := by omega
            rw [hWo]
            subst hW2
            clear hWo
            go_wp2_with fail
            go_roundg (c.n.toNat - (i + 1))
            case measure => go_light; omega
            case rel =>
              go_light
              exact ⟨i + 1, _, rfl, by go_num, by omega, by omega, HXQ.out, HBQ.out⟩
      · clear c1 c2 c3 c4 c5 c6 c7 c8 c9 c10 c11 c12 c13 c14
        go_wp2_with fail
        go_ret
        go_light
        exact ⟨rfl, HBR.out⟩
end Go.Proofs.Ytjdkaagkaambkab
