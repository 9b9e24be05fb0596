/- BusBandwidth: the reference's Bandwidth and the walk. -/
import Derived.Test.YtjdkaagkaambkabV
import Derived.Test.YtjdkaagkaambkabY
namespace Go.Proofs.Ytjdkaagkaambkab
open Go.RowKit Go.Proofs

theorem rstart_v (c : Cfg) (core y z : Int) (w : World) (hv : vld c = true) (h0 : 0 ≤ core) (h1 : core < c.n) (y0 : 0 ≤ y) (y1 : y ≤ 1099511627776) (h : strt0 c core y = z) : Calls Try.prog 21 #[cfgV c, .int .i64 core, .int .i64 y] w fun e w' => e = .returned (.int .i64 z) ∧ Below w.heap.size w w' := by
  rw [← h]; exact rstart_any c core y w hv h0 h1 y0 y1
/-- What the loop keeps. -/
def BwRel (w : World) (c : Cfg) (core fr to_ : Int) (z k : Int) (wr : World) : Prop :=
  wr.heap[w.heap.size]? = some (.cells (cfgA c) 27 (0, 0)) ∧ Below w.heap.size w wr ∧ k + bnd c core z to_ = bnd c core fr to_

set_option maxHeartbeats 2000000 in
set_option maxRecDepth 1000000 in
theorem rband_any (c : Cfg) (core fr to_ : Int) (w : World) (hv : vld c = true) (h0 : 0 ≤ core) (h1 : core < c.n) (f0 : 0 ≤ fr) (hft : fr ≤ to_) (ht : to_ ≤ 1000000000000) : Calls Try.prog 17 #[cfgV c, .int .i64 core, .int .i64 fr, .int .i64 to_] w (IntEnd w (bnd c core fr to_)) := by
  have HV := Lib.hid hv
  have HC0 := Lib.hid h0
  have HC1 := Lib.hid h1
  obtain ⟨n1, n4, t1, ts, s6⟩ := vld_n hv
  have HSB : Hid (∀ z, 0 ≤ z → z ≤ to_ → z ≤ strt0 c core z ∧ strt0 c core z ≤ z + 4000000) := Lib.hid fun z a b => strt0_bounds c core z (use_ok hv h0 h1 a (by omega))
  have HBO : Hid (∀ z, 0 ≤ z → z ≤ to_ → strt0 c core z + c.t ≤ to_ → bnd c core z to_ = 1 + bnd c core (strt0 c core z + c.t) to_) := Lib.hid fun z a b d => bnd_one c core z to_ hv h0 h1 a b (by omega) d
  have HBN : Hid (∀ z, 0 ≤ z → z ≤ to_ → to_ < strt0 c core z + c.t → bnd c core z to_ = 0) := Lib.hid fun z a b d => bnd_none c core z to_ hv h0 h1 a b (by omega) d
  clear hv h0 h1
  have sf := HSB.out fr f0 hft
  obtain ⟨S, hS⟩ : ∃ S, strt0 c core fr = S := ⟨_, rfl⟩
  rw [hS] at sf
  have HS := Lib.hid hS
  clear hS
  have w1_ : IntKind.i64.wrap (S + c.t) = S + c.t := IntWalk.i64_in _ (by omega)
  go_enter Try.func17, Try.ntmps17
  have hx : (w.alloc (.cells (cfgA c) 27)).heap[w.heap.size]? = some (.cells (cfgA c) 27 (0, 0)) := heap_alloc_new w _
  have HB0 := Lib.hid ((Below.refl w.heap.size w).alloc (Nat.le_refl _) (.cells (cfgA c) 27))
  have c0 : (w.alloc (.cells (cfgA c) 27)).cell? ⟨w.heap.size, 0, none⟩ = some (.int .i64 c.n) := cell_of_row _ _ 0 _ _ _ hx
  have c1 : (w.alloc (.cells (cfgA c) 27)).cell? ⟨w.heap.size, 1, none⟩ = some (.int .i64 c.s) := cell_of_row _ _ 1 _ _ _ hx
  have c2 : (w.alloc (.cells (cfgA c) 27)).cell? ⟨w.heap.size, 2, none⟩ = some (.int .i64 c.t) := cell_of_row _ _ 2 _ _ _ hx
  have c3 : (w.alloc (.cells (cfgA c) 27)).cell? ⟨w.heap.size, 3, none⟩ = some (.int .i64 c.r0) := cell_of_row _ _ 3 _ _ _ hx
  have c4 : (w.alloc (.cells (cfgA c) 27)).cell? ⟨w.heap.size, 4, none⟩ = some (.int .i64 c.r1) := cell_of_row _ _ 4 _ _ _ hx
  have c5 : (w.alloc (.cells (cfgA c) 27)).cell? ⟨w.heap.size, 5, none⟩ = some (.int .i64 c.r2) := cell_of_row _ _ 5 _ _ _ hx
  have c6 : (w.alloc (.cells (cfgA c) 27)).cell? ⟨w.heap.size, 6, none⟩ = some (.int .i64 c.r3) := cell_of_row _ _ 6 _ _ _ hx
  have c7 : (w.alloc (.cells (cfgA c) 27)).cell? ⟨w.heap.size, 7, none⟩ = some (.int .i64 c.r4) := cell_of_row _ _ 7 _ _ _ hx
  have c8 : (w.alloc (.cells (cfgA c) 27)).cell? ⟨w.heap.size, 8, none⟩ = some (.int .i64 c.r5) := cell_of_row _ _ 8 _ _ _ hx
  have c9 : (w.alloc (.cells (cfgA c) 27)).cell? ⟨w.heap.size, 9, none⟩ = some (.int .i64 c.r6) := cell_of_row _ _ 9 _ _ _ hx
  have c10 : (w.alloc (.cells (cfgA c) 27)).cell? ⟨w.heap.size, 10, none⟩ = some (.int .i64 c.r7) := cell_of_row _ _ 10 _ _ _ hx
  have c11 : (w.alloc (.cells (cfgA c) 27)).cell? ⟨w.heap.size, 11, none⟩ = some (.int .i64 c.r8) := cell_of_row _ _ 11 _ _ _ hx
  have c12 : (w.alloc (.cells (cfgA c) 27)).cell? ⟨w.heap.size, 12, none⟩ = some (.int .i64 c.r9) := cell_of_row _ _ 12 _ _ _ hx
  have c13 : (w.alloc (.cells (cfgA c) 27)).cell? ⟨w.heap.size, 13, none⟩ = some (.int .i64 c.ra) := cell_of_row _ _ 13 _ _ _ hx
  have c14 : (w.alloc (.cells (cfgA c) 27)).cell? ⟨w.heap.size, 14, none⟩ = some (.int .i64 c.rb) := cell_of_row _ _ 14 _ _ _ hx
  have HX0 := Lib.hid hx
  clear hx
  go_wp2_with fail
  have X0 := Ext.cell c0
  have X1 := Ext.cell c1
  have X2 := Ext.cell c2
  have X3 := Ext.cell c3
  have X4 := Ext.cell c4
  have X5 := Ext.cell c5
  have X6 := Ext.cell c6
  have X7 := Ext.cell c7
  have X8 := Ext.cell c8
  have X9 := Ext.cell c9
  have X10 := Ext.cell c10
  have X11 := Ext.cell c11
  have X12 := Ext.cell c12
  have X13 := Ext.cell c13
  have X14 := Ext.cell c14
  clear c0 c1 c2 c3 c4 c5 c6 c7 c8 c9 c10 c11 c12 c13 c14
  refine wq_region (by kernel_rfl) (by kernel_rfl) ?_
  repeat (refine Wq.step (fun K hK => ?_); go_simp; first | (refine hK _ ?_; clear hK K) | (refine ⟨_, fun _ => rfl, hK _ ?_⟩; clear hK K))
  refine Wq.step (fun K hK => ?_)
  go_simp
  apply Exists.intro
  refine ⟨fun _ => ?_, hK _ ?_⟩
  · exact Ext.call _ (rstart_v c core fr S _ HV.out HC0.out HC1.out f0 (by omega) HS.out)
  clear hK K
  repeat (refine Wq.step (fun K hK => ?_); go_simp; first | (refine hK _ ?_; clear hK K) | (refine ⟨_, fun _ => rfl, hK _ ?_⟩; clear hK K))
  refine Wq.nil ?_
  rintro _ ⟨u, rfl⟩
  obtain ⟨w1, hb⟩ := u
  simp only []
  have hx : w1.heap[w.heap.size]? = some (.cells (cfgA c) 27 (0, 0)) := by
    rw [hb.block _ (World.block_lt_of_cell? _ _ (X0 ⟨(w.alloc (.cells (cfgA c) 27)), Below.refl _ _⟩))]
    exact HX0.out
  have HB1 := Lib.hid (HB0.out.trans (hb.mono HB0.out.size))
  clear hb X0 X1 X2 X3 X4 X5 X6 X7 X8 X9 X10 X11 X12 X13 X14
  have c0 : w1.cell? ⟨w.heap.size, 0, none⟩ = some (.int .i64 c.n) := cell_of_row _ _ 0 _ _ _ hx
  have c1 : w1.cell? ⟨w.heap.size, 1, none⟩ = some (.int .i64 c.s) := cell_of_row _ _ 1 _ _ _ hx
  have c2 : w1.cell? ⟨w.heap.size, 2, none⟩ = some (.int .i64 c.t) := cell_of_row _ _ 2 _ _ _ hx
  have c3 : w1.cell? ⟨w.heap.size, 3, none⟩ = some (.int .i64 c.r0) := cell_of_row _ _ 3 _ _ _ hx
  have c4 : w1.cell? ⟨w.heap.size, 4, none⟩ = some (.int .i64 c.r1) := cell_of_row _ _ 4 _ _ _ hx
  have c5 : w1.cell? ⟨w.heap.size, 5, none⟩ = some (.int .i64 c.r2) := cell_of_row _ _ 5 _ _ _ hx
  have c6 : w1.cell? ⟨w.heap.size, 6, none⟩ = some (.int .i64 c.r3) := cell_of_row _ _ 6 _ _ _ hx
  have c7 : w1.cell? ⟨w.heap.size, 7, none⟩ = some (.int .i64 c.r4) := cell_of_row _ _ 7 _ _ _ hx
  have c8 : w1.cell? ⟨w.heap.size, 8, none⟩ = some (.int .i64 c.r5) := cell_of_row _ _ 8 _ _ _ hx
  have c9 : w1.cell? ⟨w.heap.size, 9, none⟩ = some (.int .i64 c.r6) := cell_of_row _ _ 9 _ _ _ hx
  have c10 : w1.cell? ⟨w.heap.size, 10, none⟩ = some (.int .i64 c.r7) := cell_of_row _ _ 10 _ _ _ hx
  have c11 : w1.cell? ⟨w.heap.size, 11, none⟩ = some (.int .i64 c.r8) := cell_of_row _ _ 11 _ _ _ hx
  have c12 : w1.cell? ⟨w.heap.size, 12, none⟩ = some (.int .i64 c.r9) := cell_of_row _ _ 12 _ _ _ hx
  have c13 : w1.cell? ⟨w.heap.size, 13, none⟩ = some (.int .i64 c.ra) := cell_of_row _ _ 13 _ _ _ hx
  have c14 : w1.cell? ⟨w.heap.size, 14, none⟩ = some (.int .i64 c.rb) := cell_of_row _ _ 14 _ _ _ hx
  have HX1 := Lib.hid hx
  clear hx
  go_wp2_with fail
  go_loopg [9, 10] (to_ - fr).toNat (fun g kv av wr => ∃ (z k : Int) (wx : World), wx = wr ∧ kv = .int .i64 k ∧ av = .int .i64 (strt0 c core z + c.t) ∧ fr ≤ z ∧ z ≤ to_ ∧ to_ - z ≤ g ∧ 0 ≤ k ∧ k ≤ z - fr ∧ BwRel w c core fr to_ z k wx)
  case atStart => exact ⟨fr, 0, _, rfl, rfl, by rw [HS.out], by omega, by omega, by omega, by omega, by omega, HX1.out, HB1.out, by omega⟩
  case round =>
    obtain ⟨z, k, wr, rfl, rfl, rfl, hz, hzt, hg, k0, k1, hx, hb, hk⟩ := hrel
    clear c0 c1 c2 c3 c4 c5 c6 c7 c8 c9 c10 c11 c12 c13 c14 w1_ HS sf
    have c0 : wr.cell? ⟨w.heap.size, 0, none⟩ = some (.int .i64 c.n) := cell_of_row _ _ 0 _ _ _ hx
    have c1 : wr.cell? ⟨w.heap.size, 1, none⟩ = some (.int .i64 c.s) := cell_of_row _ _ 1 _ _ _ hx
    have c2 : wr.cell? ⟨w.heap.size, 2, none⟩ = some (.int .i64 c.t) := cell_of_row _ _ 2 _ _ _ hx
    have c3 : wr.cell? ⟨w.heap.size, 3, none⟩ = some (.int .i64 c.r0) := cell_of_row _ _ 3 _ _ _ hx
    have c4 : wr.cell? ⟨w.heap.size, 4, none⟩ = some (.int .i64 c.r1) := cell_of_row _ _ 4 _ _ _ hx
    have c5 : wr.cell? ⟨w.heap.size, 5, none⟩ = some (.int .i64 c.r2) := cell_of_row _ _ 5 _ _ _ hx
    have c6 : wr.cell? ⟨w.heap.size, 6, none⟩ = some (.int .i64 c.r3) := cell_of_row _ _ 6 _ _ _ hx
    have c7 : wr.cell? ⟨w.heap.size, 7, none⟩ = some (.int .i64 c.r4) := cell_of_row _ _ 7 _ _ _ hx
    have c8 : wr.cell? ⟨w.heap.size, 8, none⟩ = some (.int .i64 c.r5) := cell_of_row _ _ 8 _ _ _ hx
    have c9 : wr.cell? ⟨w.heap.size, 9, none⟩ = some (.int .i64 c.r6) := cell_of_row _ _ 9 _ _ _ hx
    have c10 : wr.cell? ⟨w.heap.size, 10, none⟩ = some (.int .i64 c.r7) := cell_of_row _ _ 10 _ _ _ hx
    have c11 : wr.cell? ⟨w.heap.size, 11, none⟩ = some (.int .i64 c.r8) := cell_of_row _ _ 11 _ _ _ hx
    have c12 : wr.cell? ⟨w.heap.size, 12, none⟩ = some (.int .i64 c.r9) := cell_of_row _ _ 12 _ _ _ hx
    have c13 : wr.cell? ⟨w.heap.size, 13, none⟩ = some (.int .i64 c.ra) := cell_of_row _ _ 13 _ _ _ hx
    have c14 : wr.cell? ⟨w.heap.size, 14, none⟩ = some (.int .i64 c.rb) := cell_of_row _ _ 14 _ _ _ hx
    have HX9 := Lib.hid hx
    have HB9 := Lib.hid hb
    have HK := Lib.hid hk
    clear hx hb hk
    have sz := HSB.out z (by omega) hzt
    obtain ⟨S, hS⟩ : ∃ S, strt0 c core z = S := ⟨_, rfl⟩
    have HS := Lib.hid hS
    rw [hS] at sz ⊢
    clear hS
    by_cases hle : S + c.t ≤ to_
    · have hnext : bnd c core z to_ = 1 + bnd c core (S + c.t) to_ := by
        have := HBO.out z (by omega) hzt (by rw [HS.out]; exact hle)
        rwa [HS.out] at this
      have HK2 : Hid (k + 1 + bnd c core (S + c.t) to_ = bnd c core fr to_) := Lib.hid (by rw [← HK.out, hnext]; omega)
      clear hnext
      have sn := HSB.out (S + c.t) (by omega) hle
      obtain ⟨N, hN⟩ : ∃ N, strt0 c core (S + c.t) = N := ⟨_, rfl⟩
      have HN := Lib.hid hN
      rw [hN] at sn
      clear hN
      have w2_ : IntKind.i64.wrap (k + 1) = k + 1 := IntWalk.i64_in _ (by omega)
      have w3_ : IntKind.i64.wrap (N + c.t) = N + c.t := IntWalk.i64_in _ (by omega)
      go_wp2_with fail
      have X0 := Ext.cell c0
      have X1 := Ext.cell c1
      have X2 := Ext.cell c2
      have X3 := Ext.cell c3
      have X4 := Ext.cell c4
      have X5 := Ext.cell c5
      have X6 := Ext.cell c6
      have X7 := Ext.cell c7
      have X8 := Ext.cell c8
      have X9 := Ext.cell c9
      have X10 := Ext.cell c10
      have X11 := Ext.cell c11
      have X12 := Ext.cell c12
      have X13 := Ext.cell c13
      have X14 := Ext.cell c14
      clear c0 c1 c2 c3 c4 c5 c6 c7 c8 c9 c10 c11 c12 c13 c14
      refine wq_region (by kernel_rfl) (by kernel_rfl) ?_
      repeat (refine Wq.step (fun K hK => ?_); go_simp; first | (refine hK _ ?_; clear hK K) | (refine ⟨_, fun _ => rfl, hK _ ?_⟩; clear hK K))
      refine Wq.step (fun K hK => ?_)
      go_simp
      apply Exists.intro
      refine ⟨fun _ => ?_, hK _ ?_⟩
      · exact Ext.call _ (rstart_v c core (S + c.t) N _ HV.out HC0.out HC1.out (by omega) (by omega) HN.out)
      clear hK K
      repeat (refine Wq.step (fun K hK => ?_); go_simp; first | (refine hK _ ?_; clear hK K) | (refine ⟨_, fun _ => rfl, hK _ ?_⟩; clear hK K))
      refine Wq.nil ?_
      rintro _ ⟨u, rfl⟩
      have HRel := Lib.hid (show BwRel w c core fr to_ (S + c.t) (k + 1) u.1 from ⟨by rw [u.2.block _ (Array.getElem?_eq_some_iff.1 HX9.out).1]; exact HX9.out, HB9.out.trans (u.2.mono HB9.out.size), HK2.out⟩)
      go_wp2_with fail
      go_roundg ((to_ - (S + c.t)).toNat)
      case measure => go_light; omega
      case rel =>
        go_light
        exact ⟨S + c.t, k + 1, _, rfl, rfl, by rw [HN.out], by omega, by omega, by omega, by omega, by omega, HRel.out⟩
    · have hk : k = bnd c core fr to_ := by
        rw [← HK.out, HBN.out z (by omega) hzt (by rw [HS.out]; omega)]; omega
      have HKK := Lib.hid hk
      clear hk c0 c1 c2 c3 c4 c5 c6 c7 c8 c9 c10 c11 c12 c13 c14
      go_wp2_with fail
      go_ret
      go_light
      exact ⟨by rw [← HKK.out] <;> rfl, HB9.out⟩

theorem rband_v (c : Cfg) (core fr to_ z : Int) (w : World) (hv : vld c = true) (h0 : 0 ≤ core) (h1 : core < c.n) (f0 : 0 ≤ fr) (hft : fr ≤ to_) (ht : to_ ≤ 1000000000000) (h : bnd c core fr to_ = z) : Calls Try.prog 17 #[cfgV c, .int .i64 core, .int .i64 fr, .int .i64 to_] w fun e w' => e = .returned (.int .i64 z) ∧ Below w.heap.size w w' := by
  rw [← h]; exact rband_any c core fr to_ w hv h0 h1 f0 hft ht

set_option maxHeartbeats 2000000 in
set_option maxRecDepth 1000000 in
theorem band_walk (c : Cfg) (core x d : Int) (w : World) (x0 : 0 ≤ x) (x1 : x ≤ 4294967295) (d0 : 0 ≤ d) (d1 : d ≤ 65535) : Calls Try.prog 4 #[cfgV c, .int .i64 core, .int .u32 x, .int .u16 d] w (TrueEnd w) := by
  obtain ⟨b, hu⟩ : ∃ b, vld c = b := ⟨_, rfl⟩
  have HU := Lib.hid hu
  clear hu
  go_enter Try.func4, Try.ntmps4
  go_wp2_with fail
  refine (awake_any _).mono ?_
  rintro e w1 ⟨rfl, hb⟩
  have hx : w1.heap[w.heap.size]? = some (.cells (cfgA c) 27 (0, 0)) := by
    rw [hb.block _ (by simp)]
    exact heap_alloc_new w _
  have HB1 := Lib.hid (((Below.refl _ _).alloc (Nat.le_refl _) _).trans (hb.mono (by simp)))
  have c0 : w1.cell? ⟨w.heap.size, 0, none⟩ = some (.int .i64 c.n) := cell_of_row _ _ 0 _ _ _ hx
  have c1 : w1.cell? ⟨w.heap.size, 1, none⟩ = some (.int .i64 c.s) := cell_of_row _ _ 1 _ _ _ hx
  have c2 : w1.cell? ⟨w.heap.size, 2, none⟩ = some (.int .i64 c.t) := cell_of_row _ _ 2 _ _ _ hx
  have c3 : w1.cell? ⟨w.heap.size, 3, none⟩ = some (.int .i64 c.r0) := cell_of_row _ _ 3 _ _ _ hx
  have c4 : w1.cell? ⟨w.heap.size, 4, none⟩ = some (.int .i64 c.r1) := cell_of_row _ _ 4 _ _ _ hx
  have c5 : w1.cell? ⟨w.heap.size, 5, none⟩ = some (.int .i64 c.r2) := cell_of_row _ _ 5 _ _ _ hx
  have c6 : w1.cell? ⟨w.heap.size, 6, none⟩ = some (.int .i64 c.r3) := cell_of_row _ _ 6 _ _ _ hx
  have c7 : w1.cell? ⟨w.heap.size, 7, none⟩ = some (.int .i64 c.r4) := cell_of_row _ _ 7 _ _ _ hx
  have c8 : w1.cell? ⟨w.heap.size, 8, none⟩ = some (.int .i64 c.r5) := cell_of_row _ _ 8 _ _ _ hx
  have c9 : w1.cell? ⟨w.heap.size, 9, none⟩ = some (.int .i64 c.r6) := cell_of_row _ _ 9 _ _ _ hx
  have c10 : w1.cell? ⟨w.heap.size, 10, none⟩ = some (.int .i64 c.r7) := cell_of_row _ _ 10 _ _ _ hx
  have c11 : w1.cell? ⟨w.heap.size, 11, none⟩ = some (.int .i64 c.r8) := cell_of_row _ _ 11 _ _ _ hx
  have c12 : w1.cell? ⟨w.heap.size, 12, none⟩ = some (.int .i64 c.r9) := cell_of_row _ _ 12 _ _ _ hx
  have c13 : w1.cell? ⟨w.heap.size, 13, none⟩ = some (.int .i64 c.ra) := cell_of_row _ _ 13 _ _ _ hx
  have c14 : w1.cell? ⟨w.heap.size, 14, none⟩ = some (.int .i64 c.rb) := cell_of_row _ _ 14 _ _ _ hx
  have HX1 := Lib.hid hx
  clear hb hx
  go_wp2_with fail
  refine (rvalid_any c _).mono ?_
  rintro e w2 ⟨rfl, hb⟩
  rw [HU.out]
  have hx : w2.heap[w.heap.size]? = some (.cells (cfgA c) 27 (0, 0)) := by
    rw [hb.block _ (World.block_lt_of_cell? _ _ c0)]
    exact HX1.out
  have HB2 := Lib.hid (HB1.out.trans (hb.mono HB1.out.size))
  clear hb c0 c1 c2 c3 c4 c5 c6 c7 c8 c9 c10 c11 c12 c13 c14
  have c0 : w2.cell? ⟨w.heap.size, 0, none⟩ = some (.int .i64 c.n) := cell_of_row _ _ 0 _ _ _ hx
  have c1 : w2.cell? ⟨w.heap.size, 1, none⟩ = some (.int .i64 c.s) := cell_of_row _ _ 1 _ _ _ hx
  have c2 : w2.cell? ⟨w.heap.size, 2, none⟩ = some (.int .i64 c.t) := cell_of_row _ _ 2 _ _ _ hx
  have c3 : w2.cell? ⟨w.heap.size, 3, none⟩ = some (.int .i64 c.r0) := cell_of_row _ _ 3 _ _ _ hx
  have c4 : w2.cell? ⟨w.heap.size, 4, none⟩ = some (.int .i64 c.r1) := cell_of_row _ _ 4 _ _ _ hx
  have c5 : w2.cell? ⟨w.heap.size, 5, none⟩ = some (.int .i64 c.r2) := cell_of_row _ _ 5 _ _ _ hx
  have c6 : w2.cell? ⟨w.heap.size, 6, none⟩ = some (.int .i64 c.r3) := cell_of_row _ _ 6 _ _ _ hx
  have c7 : w2.cell? ⟨w.heap.size, 7, none⟩ = some (.int .i64 c.r4) := cell_of_row _ _ 7 _ _ _ hx
  have c8 : w2.cell? ⟨w.heap.size, 8, none⟩ = some (.int .i64 c.r5) := cell_of_row _ _ 8 _ _ _ hx
  have c9 : w2.cell? ⟨w.heap.size, 9, none⟩ = some (.int .i64 c.r6) := cell_of_row _ _ 9 _ _ _ hx
  have c10 : w2.cell? ⟨w.heap.size, 10, none⟩ = some (.int .i64 c.r7) := cell_of_row _ _ 10 _ _ _ hx
  have c11 : w2.cell? ⟨w.heap.size, 11, none⟩ = some (.int .i64 c.r8) := cell_of_row _ _ 11 _ _ _ hx
  have c12 : w2.cell? ⟨w.heap.size, 12, none⟩ = some (.int .i64 c.r9) := cell_of_row _ _ 12 _ _ _ hx
  have c13 : w2.cell? ⟨w.heap.size, 13, none⟩ = some (.int .i64 c.ra) := cell_of_row _ _ 13 _ _ _ hx
  have c14 : w2.cell? ⟨w.heap.size, 14, none⟩ = some (.int .i64 c.rb) := cell_of_row _ _ 14 _ _ _ hx
  have HX2 := Lib.hid hx
  clear hx
  cases b with
  | false =>
    clear c0 c1 c2 c3 c4 c5 c6 c7 c8 c9 c10 c11 c12 c13 c14
    go_wp2_with fail
    refine (awake_any _).mono ?_
    rintro e w3 ⟨rfl, hb⟩
    have HB3 := Lib.hid (HB2.out.trans (hb.mono HB2.out.size))
    clear hb
    go_wp2_with fail
    go_ret
    go_light
    exact ⟨rfl, HB3.out⟩
  | true =>
    by_cases s40 : c.s > 40
    · skip
      clear c0 c2 c3 c4 c5 c6 c7 c8 c9 c10 c11 c12 c13 c14
      go_wp2_with fail
      refine (awake_any _).mono ?_
      rintro e w3 ⟨rfl, hb⟩
      have HB3 := Lib.hid (HB2.out.trans (hb.mono HB2.out.size))
      clear hb
      go_wp2_with fail
      go_ret
      go_light
      exact ⟨rfl, HB3.out⟩
    by_cases h0 : core < 0
    · skip
      clear c0 c2 c3 c4 c5 c6 c7 c8 c9 c10 c11 c12 c13 c14
      go_wp2_with fail
      refine (awake_any _).mono ?_
      rintro e w3 ⟨rfl, hb⟩
      have HB3 := Lib.hid (HB2.out.trans (hb.mono HB2.out.size))
      clear hb
      go_wp2_with fail
      go_ret
      go_light
      exact ⟨rfl, HB3.out⟩
    by_cases h1 : c.n ≤ core
    · skip
      clear c2 c3 c4 c5 c6 c7 c8 c9 c10 c11 c12 c13 c14
      go_wp2_with fail
      refine (awake_any _).mono ?_
      rintro e w3 ⟨rfl, hb⟩
      have HB3 := Lib.hid (HB2.out.trans (hb.mono HB2.out.size))
      clear hb
      go_wp2_with fail
      go_ret
      go_light
      exact ⟨rfl, HB3.out⟩
    by_cases d4 : d > 400
    · skip
      clear c2 c3 c4 c5 c6 c7 c8 c9 c10 c11 c12 c13 c14
      go_wp2_with fail
      refine (awake_any _).mono ?_
      rintro e w3 ⟨rfl, hb⟩
      have HB3 := Lib.hid (HB2.out.trans (hb.mono HB2.out.size))
      clear hb
      go_wp2_with fail
      go_ret
      go_light
      exact ⟨rfl, HB3.out⟩
    have wd : IntKind.i64.wrap d = d := IntWalk.i64_in _ (by omega)
    have wx : IntKind.i64.wrap (x + d) = x + d := IntWalk.i64_in _ (by omega)
    obtain ⟨B, hB⟩ : ∃ B, bnd c core x (x + d) = B := ⟨_, rfl⟩
    have HB := Lib.hid hB
    clear hB
    have q1 : (B == B) = true := by simp
    obtain ⟨n1, n4, t1, ts, s6⟩ := vld_n HU.out
    go_wp2_with fail
    refine (cycle_any x x0 (by omega) _).mono ?_
    rintro e w3 ⟨rfl, hb⟩
    have hx : w3.heap[w.heap.size]? = some (.cells (cfgA c) 27 (0, 0)) := by
      rw [hb.block _ (World.block_lt_of_cell? _ _ c0)]
      exact HX2.out
    have HB3 := Lib.hid (HB2.out.trans (hb.mono HB2.out.size))
    clear hb c0 c1 c2 c3 c4 c5 c6 c7 c8 c9 c10 c11 c12 c13 c14
    have c0 : w3.cell? ⟨w.heap.size, 0, none⟩ = some (.int .i64 c.n) := cell_of_row _ _ 0 _ _ _ hx
    have c1 : w3.cell? ⟨w.heap.size, 1, none⟩ = some (.int .i64 c.s) := cell_of_row _ _ 1 _ _ _ hx
    have c2 : w3.cell? ⟨w.heap.size, 2, none⟩ = some (.int .i64 c.t) := cell_of_row _ _ 2 _ _ _ hx
    have c3 : w3.cell? ⟨w.heap.size, 3, none⟩ = some (.int .i64 c.r0) := cell_of_row _ _ 3 _ _ _ hx
    have c4 : w3.cell? ⟨w.heap.size, 4, none⟩ = some (.int .i64 c.r1) := cell_of_row _ _ 4 _ _ _ hx
    have c5 : w3.cell? ⟨w.heap.size, 5, none⟩ = some (.int .i64 c.r2) := cell_of_row _ _ 5 _ _ _ hx
    have c6 : w3.cell? ⟨w.heap.size, 6, none⟩ = some (.int .i64 c.r3) := cell_of_row _ _ 6 _ _ _ hx
    have c7 : w3.cell? ⟨w.heap.size, 7, none⟩ = some (.int .i64 c.r4) := cell_of_row _ _ 7 _ _ _ hx
    have c8 : w3.cell? ⟨w.heap.size, 8, none⟩ = some (.int .i64 c.r5) := cell_of_row _ _ 8 _ _ _ hx
    have c9 : w3.cell? ⟨w.heap.size, 9, none⟩ = some (.int .i64 c.r6) := cell_of_row _ _ 9 _ _ _ hx
    have c10 : w3.cell? ⟨w.heap.size, 10, none⟩ = some (.int .i64 c.r7) := cell_of_row _ _ 10 _ _ _ hx
    have c11 : w3.cell? ⟨w.heap.size, 11, none⟩ = some (.int .i64 c.r8) := cell_of_row _ _ 11 _ _ _ hx
    have c12 : w3.cell? ⟨w.heap.size, 12, none⟩ = some (.int .i64 c.r9) := cell_of_row _ _ 12 _ _ _ hx
    have c13 : w3.cell? ⟨w.heap.size, 13, none⟩ = some (.int .i64 c.ra) := cell_of_row _ _ 13 _ _ _ hx
    have c14 : w3.cell? ⟨w.heap.size, 14, none⟩ = some (.int .i64 c.rb) := cell_of_row _ _ 14 _ _ _ hx
    have HX3 := Lib.hid hx
    clear hx
    go_wp2_with fail
    have X0 := Ext.cell c0
    have X1 := Ext.cell c1
    have X2 := Ext.cell c2
    have X3 := Ext.cell c3
    have X4 := Ext.cell c4
    have X5 := Ext.cell c5
    have X6 := Ext.cell c6
    have X7 := Ext.cell c7
    have X8 := Ext.cell c8
    have X9 := Ext.cell c9
    have X10 := Ext.cell c10
    have X11 := Ext.cell c11
    have X12 := Ext.cell c12
    have X13 := Ext.cell c13
    have X14 := Ext.cell c14
    clear c0 c1 c2 c3 c4 c5 c6 c7 c8 c9 c10 c11 c12 c13 c14
    refine wq_region (by kernel_rfl) (by kernel_rfl) ?_
    repeat (refine Wq.step (fun K hK => ?_); go_simp; first | (refine hK _ ?_; clear hK K) | (refine ⟨_, fun _ => rfl, hK _ ?_⟩; clear hK K))
    refine Wq.step (fun K hK => ?_)
    go_simp
    apply Exists.intro
    refine ⟨fun _ => ?_, hK _ ?_⟩
    · exact Ext.call _ (bnd_v c core x (x + d) B _ HB.out)
    clear hK K
    repeat (refine Wq.step (fun K hK => ?_); go_simp; first | (refine hK _ ?_; clear hK K) | (refine ⟨_, fun _ => rfl, hK _ ?_⟩; clear hK K))
    refine Wq.step (fun K hK => ?_)
    go_simp
    apply Exists.intro
    refine ⟨fun _ => ?_, hK _ ?_⟩
    · exact Ext.call _ (rband_v c core x (x + d) B _ HU.out (by omega) (by omega) x0 (by omega) (by omega) HB.out)
    clear hK K
    repeat (refine Wq.step (fun K hK => ?_); go_simp; first | (refine hK _ ?_; clear hK K) | (refine ⟨_, fun _ => rfl, hK _ ?_⟩; clear hK K))
    refine Wq.nil ?_
    rintro _ ⟨u, rfl⟩
    obtain ⟨w4, hb⟩ := u
    simp only []
    have HB4 := Lib.hid (HB3.out.trans (hb.mono HB3.out.size))
    clear hb
    go_wp2_with fail
    go_ret
    go_light
    exact ⟨rfl, HB4.out⟩
end Go.Proofs.Ytjdkaagkaambkab
