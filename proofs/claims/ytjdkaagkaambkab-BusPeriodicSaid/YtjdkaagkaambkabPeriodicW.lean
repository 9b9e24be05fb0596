/- BusPeriodic: the plain law and the walk. -/
import Derived.Test.YtjdkaagkaambkabQ
namespace Go.Proofs.Ytjdkaagkaambkab
open Go.RowKit Go.Proofs

theorem start_c (c : Cfg) (core x z : Int) (w : World) (h : strt c core x = z) : Calls Try.prog 14 #[cfgV c, .int .i64 core, .int .i64 x] w fun e w' => e = .returned (.int .i64 z) ∧ Below w.heap.size w w' := by
  rw [← h]; exact start_any c core x w

theorem ownd_add (c : Cfg) (core q k : Int) : ownd c core (q + k * c.n) = ownd c core q + k * c.n := by
  unfold ownd
  rw [Int.add_mul_emod_self_right]
  omega

theorem ownd_next (c : Cfg) (core q : Int) (n1 : 1 ≤ c.n) (n4 : c.n ≤ 4) (h0 : 0 ≤ core) (h1 : core < c.n) : ownd c ((core + 1) % c.n) (q + 1) = ownd c core q + 1 := by
  unfold ownd
  rcases (by omega : c.n = 1 ∨ c.n = 2 ∨ c.n = 3 ∨ c.n = 4) with e | e | e | e <;> rw [e] <;> rw [e] at h1 <;> omega

theorem per_plain (c : Cfg) (core x k : Int) (hv : vld c = true) (h0 : 0 ≤ core) (h1 : core < c.n) :
    strt0 c core (x + k * (c.n * c.s)) = strt0 c core x + k * (c.n * c.s) ∧ strt0 c ((core + 1) % c.n) (x + c.s) = strt0 c core x + c.s := by
  obtain ⟨n1, n4, t1, ts, s6⟩ := vld_n hv
  constructor
  · unfold strt0
    rw [← Int.mul_assoc, Int.add_mul_ediv_right _ _ (by omega), Int.add_mul_emod_self_right, ownd_add, (by omega : x / c.s + k * c.n + 1 = (x / c.s + 1) + k * c.n), ownd_add]
    by_cases h : ownd c core (x / c.s) = x / c.s ∧ x % c.s + c.t ≤ c.s
    · rw [if_pos h, if_pos ⟨by omega, h.2⟩]
    · rw [if_neg h, if_neg (by omega), Int.add_mul]
  · unfold strt0
    have e1 : (x + c.s) / c.s = x / c.s + 1 := by
      have := Int.add_mul_ediv_right x 1 (show c.s ≠ 0 by omega)
      rwa [Int.one_mul] at this
    have e2 : (x + c.s) % c.s = x % c.s := by
      have := Int.add_mul_emod_self_right x 1 c.s
      rwa [Int.one_mul] at this
    rw [e1, e2, ownd_next c core _ n1 n4 h0 h1, ownd_next c core _ n1 n4 h0 h1]
    by_cases h : ownd c core (x / c.s) = x / c.s ∧ x % c.s + c.t ≤ c.s
    · rw [if_pos h, if_pos ⟨by omega, h.2⟩]
    · rw [if_neg h, if_neg (by omega), Int.add_mul, Int.one_mul]

def TruEnd (w : World) (e : Ending) (w' : World) : Prop := e = .returned (.bool true) ∧ Below w.heap.size w w'

set_option maxHeartbeats 2000000 in
set_option maxRecDepth 1000000 in
theorem per_walk (c : Cfg) (core x k : Int) (w : World) (x0 : 0 ≤ x) (x1 : x ≤ 4294967295) (k0 : 0 ≤ k) (k1 : k ≤ 255) : Calls Try.prog 3 #[cfgV c, .int .i64 core, .int .u32 x, .int .u8 k] w (TruEnd w) := by
  obtain ⟨b, hu⟩ : ∃ b, vld c = b := ⟨_, rfl⟩
  have HU := Lib.hid hu
  clear hu
  go_enter Try.func3, Try.ntmps3
  go_wp2_with fail
  refine (awake_any _).mono ?_
  rintro e w1 ⟨rfl, hb⟩
  have hx : w1.heap[w.heap.size]? = some (.cells (cfgA c) 27 (0, 0)) := by
    rw [hb.block _ (by simp)]
    exact heap_alloc_new w _
  have HB1 := Lib.hid (((Below.refl _ _).alloc (Nat.le_refl _) _).trans (hb.mono (by simp)))
  have c0 : w1.cell? ⟨w.heap.size, 0, none⟩ = some (.int .i64 c.n) := cell_of_row _ _ 0 _ _ _ hx
  have c1 : w1.cell? ⟨w.heap.size, 1, none⟩ = some (.int .i64 c.s) := cell_of_row _ _ 1 _ _ _ hx
  have c2 : w1.cell? ⟨w.heap.size, 2, none⟩ = some (.int .i64 c.t) := cell_of_row _ _ 2 _ _ _ hx
  have c3 : w1.cell? ⟨w.heap.size, 3, none⟩ = some (.int .i64 c.r0) := cell_of_row _ _ 3 _ _ _ hx
  have c4 : w1.cell? ⟨w.heap.size, 4, none⟩ = some (.int .i64 c.r1) := cell_of_row _ _ 4 _ _ _ hx
  have c5 : w1.cell? ⟨w.heap.size, 5, none⟩ = some (.int .i64 c.r2) := cell_of_row _ _ 5 _ _ _ hx
  have c6 : w1.cell? ⟨w.heap.size, 6, none⟩ = some (.int .i64 c.r3) := cell_of_row _ _ 6 _ _ _ hx
  have c7 : w1.cell? ⟨w.heap.size, 7, none⟩ = some (.int .i64 c.r4) := cell_of_row _ _ 7 _ _ _ hx
  have c8 : w1.cell? ⟨w.heap.size, 8, none⟩ = some (.int .i64 c.r5) := cell_of_row _ _ 8 _ _ _ hx
  have c9 : w1.cell? ⟨w.heap.size, 9, none⟩ = some (.int .i64 c.r6) := cell_of_row _ _ 9 _ _ _ hx
  have c10 : w1.cell? ⟨w.heap.size, 10, none⟩ = some (.int .i64 c.r7) := cell_of_row _ _ 10 _ _ _ hx
  have c11 : w1.cell? ⟨w.heap.size, 11, none⟩ = some (.int .i64 c.r8) := cell_of_row _ _ 11 _ _ _ hx
  have c12 : w1.cell? ⟨w.heap.size, 12, none⟩ = some (.int .i64 c.r9) := cell_of_row _ _ 12 _ _ _ hx
  have c13 : w1.cell? ⟨w.heap.size, 13, none⟩ = some (.int .i64 c.ra) := cell_of_row _ _ 13 _ _ _ hx
  have c14 : w1.cell? ⟨w.heap.size, 14, none⟩ = some (.int .i64 c.rb) := cell_of_row _ _ 14 _ _ _ hx
  have HX1 := Lib.hid hx
  clear hb hx
  go_wp2_with fail
  refine (valid_any c _).mono ?_
  rintro e w2 ⟨rfl, hb⟩
  rw [HU.out]
  have hx : w2.heap[w.heap.size]? = some (.cells (cfgA c) 27 (0, 0)) := by
    rw [hb.block _ (World.block_lt_of_cell? _ _ c0)]
    exact HX1.out
  have HB2 := Lib.hid (HB1.out.trans (hb.mono HB1.out.size))
  clear hb c0 c1 c2 c3 c4 c5 c6 c7 c8 c9 c10 c11 c12 c13 c14
  have c0 : w2.cell? ⟨w.heap.size, 0, none⟩ = some (.int .i64 c.n) := cell_of_row _ _ 0 _ _ _ hx
  have c1 : w2.cell? ⟨w.heap.size, 1, none⟩ = some (.int .i64 c.s) := cell_of_row _ _ 1 _ _ _ hx
  have c2 : w2.cell? ⟨w.heap.size, 2, none⟩ = some (.int .i64 c.t) := cell_of_row _ _ 2 _ _ _ hx
  have c3 : w2.cell? ⟨w.heap.size, 3, none⟩ = some (.int .i64 c.r0) := cell_of_row _ _ 3 _ _ _ hx
  have c4 : w2.cell? ⟨w.heap.size, 4, none⟩ = some (.int .i64 c.r1) := cell_of_row _ _ 4 _ _ _ hx
  have c5 : w2.cell? ⟨w.heap.size, 5, none⟩ = some (.int .i64 c.r2) := cell_of_row _ _ 5 _ _ _ hx
  have c6 : w2.cell? ⟨w.heap.size, 6, none⟩ = some (.int .i64 c.r3) := cell_of_row _ _ 6 _ _ _ hx
  have c7 : w2.cell? ⟨w.heap.size, 7, none⟩ = some (.int .i64 c.r4) := cell_of_row _ _ 7 _ _ _ hx
  have c8 : w2.cell? ⟨w.heap.size, 8, none⟩ = some (.int .i64 c.r5) := cell_of_row _ _ 8 _ _ _ hx
  have c9 : w2.cell? ⟨w.heap.size, 9, none⟩ = some (.int .i64 c.r6) := cell_of_row _ _ 9 _ _ _ hx
  have c10 : w2.cell? ⟨w.heap.size, 10, none⟩ = some (.int .i64 c.r7) := cell_of_row _ _ 10 _ _ _ hx
  have c11 : w2.cell? ⟨w.heap.size, 11, none⟩ = some (.int .i64 c.r8) := cell_of_row _ _ 11 _ _ _ hx
  have c12 : w2.cell? ⟨w.heap.size, 12, none⟩ = some (.int .i64 c.r9) := cell_of_row _ _ 12 _ _ _ hx
  have c13 : w2.cell? ⟨w.heap.size, 13, none⟩ = some (.int .i64 c.ra) := cell_of_row _ _ 13 _ _ _ hx
  have c14 : w2.cell? ⟨w.heap.size, 14, none⟩ = some (.int .i64 c.rb) := cell_of_row _ _ 14 _ _ _ hx
  have HX2 := Lib.hid hx
  clear hx
  cases b with
  | false =>
    clear c0 c1 c2 c3 c4 c5 c6 c7 c8 c9 c10 c11 c12 c13 c14
    go_wp2_with fail
    refine (awake_any _).mono ?_
    rintro e w3 ⟨rfl, hb⟩
    have HB3 := Lib.hid (HB2.out.trans (hb.mono HB2.out.size))
    clear hb
    go_wp2_with fail
    go_ret
    go_light
    exact ⟨rfl, HB3.out⟩
  | true =>
    by_cases h0 : core < 0
    · skip
      clear c0 c1 c2 c3 c4 c5 c6 c7 c8 c9 c10 c11 c12 c13 c14
      go_wp2_with fail
      refine (awake_any _).mono ?_
      rintro e w3 ⟨rfl, hb⟩
      have HB3 := Lib.hid (HB2.out.trans (hb.mono HB2.out.size))
      clear hb
      go_wp2_with fail
      go_ret
      go_light
      exact ⟨rfl, HB3.out⟩
    by_cases h1 : c.n ≤ core
    · skip
      clear c1 c2 c3 c4 c5 c6 c7 c8 c9 c10 c11 c12 c13 c14
      go_wp2_with fail
      refine (awake_any _).mono ?_
      rintro e w3 ⟨rfl, hb⟩
      have HB3 := Lib.hid (HB2.out.trans (hb.mono HB2.out.size))
      clear hb
      go_wp2_with fail
      go_ret
      go_light
      exact ⟨rfl, HB3.out⟩
    obtain ⟨p1, p2⟩ := per_plain c core x k HU.out (by omega) (by omega)
    have u : ∀ a y, 0 ≤ a → a < c.n → 0 ≤ y → y ≤ 1099511627776 → use c a [y] = true := fun a y h0 h1 b d => by
      simp [use, HU.out, okc, h0, h1, b, d]
    have bs := strt0_bounds c core x (u core x (by omega) (by omega) x0 (by omega))
    obtain ⟨n1, n4, t1, ts, s6⟩ := vld_n HU.out
    have mb1 := Int.emod_nonneg (core + 1) (show c.n ≠ 0 by omega)
    have mb2 := Int.emod_lt_of_pos (core + 1) (show 0 < c.n by omega)
    have hm : (core + 1).tmod c.n = (core + 1) % c.n := Int.tmod_eq_emod_of_nonneg (by omega)
    have hP1 : 1 * 1 ≤ c.n * c.s := Int.mul_le_mul n1 (by omega) (by omega) (by omega)
    have hP2 : c.n * c.s ≤ 4 * 1000000 := Int.mul_le_mul n4 s6 (by omega) (by omega)
    obtain ⟨P, hP⟩ : ∃ P, c.n * c.s = P := ⟨_, rfl⟩
    rw [hP] at p1 hP1 hP2
    have hK1 : 0 ≤ k * P := Int.mul_nonneg k0 (by omega)
    have hK2 : k * P ≤ 255 * 4000000 := Int.mul_le_mul k1 hP2 (by omega) (by omega)
    obtain ⟨K, hK⟩ : ∃ K, k * P = K := ⟨_, rfl⟩
    rw [hK] at p1 hK1 hK2
    have HS : Hid (strt c core x = strt0 c core x) := Lib.hid (by rw [strt, if_pos (u _ _ (by omega) (by omega) (by omega) (by omega))])
    have HL : Hid (strt c core (x + K) = strt0 c core x + K) := Lib.hid (by rw [strt, if_pos (u _ _ (by omega) (by omega) (by omega) (by omega)), p1])
    have HN : Hid (strt c ((core + 1) % c.n) (x + c.s) = strt0 c core x + c.s) := Lib.hid (by rw [strt, if_pos (u _ _ (by omega) (by omega) (by omega) (by omega)), p2])
    clear u p1 p2
    generalize strt0 c core x = s at *
    obtain ⟨m, hmm⟩ : ∃ m, (core + 1) % c.n = m := ⟨_, rfl⟩
    rw [hmm] at HN mb1 mb2 hm
    clear hmm
    have w1_ : IntKind.i64.wrap P = P := IntWalk.i64_in _ (by omega)
    have w2_ : IntKind.i64.wrap K = K := IntWalk.i64_in _ (by omega)
    have w3_ : IntKind.i64.wrap k = k := IntWalk.i64_in _ (by omega)
    have w4_ : IntKind.i64.wrap (x + K) = x + K := IntWalk.i64_in _ (by omega)
    have w5_ : IntKind.i64.wrap (s + K) = s + K := IntWalk.i64_in _ (by omega)
    have w6_ : IntKind.i64.wrap (core + 1) = core + 1 := IntWalk.i64_in _ (by omega)
    have w7_ : IntKind.i64.wrap m = m := IntWalk.i64_in _ (by omega)
    have w8_ : IntKind.i64.wrap (x + c.s) = x + c.s := IntWalk.i64_in _ (by omega)
    have w9_ : IntKind.i64.wrap (s + c.s) = s + c.s := IntWalk.i64_in _ (by omega)
    have nz : ¬ c.n = 0 := by omega
    go_wp2_with fail
    have X0 := Ext.cell c0
    have X1 := Ext.cell c1
    have X2 := Ext.cell c2
    have X3 := Ext.cell c3
    have X4 := Ext.cell c4
    have X5 := Ext.cell c5
    have X6 := Ext.cell c6
    have X7 := Ext.cell c7
    have X8 := Ext.cell c8
    have X9 := Ext.cell c9
    have X10 := Ext.cell c10
    have X11 := Ext.cell c11
    have X12 := Ext.cell c12
    have X13 := Ext.cell c13
    have X14 := Ext.cell c14
    clear c0 c1 c2 c3 c4 c5 c6 c7 c8 c9 c10 c11 c12 c13 c14
    refine wq_region (by kernel_rfl) (by kernel_rfl) ?_
    repeat (refine Wq.step (fun K hK => ?_); go_simp; first | (refine hK _ ?_; clear hK K) | (refine ⟨_, fun _ => rfl, hK _ ?_⟩; clear hK K))
    refine Wq.step (fun K hK => ?_)
    go_simp
    apply Exists.intro
    refine ⟨fun _ => ?_, hK _ ?_⟩
    · exact Ext.call _ (cycle_any x x0 (by omega) _)
    clear hK K
    repeat (refine Wq.step (fun K hK => ?_); go_simp; first | (refine hK _ ?_; clear hK K) | (refine ⟨_, fun _ => rfl, hK _ ?_⟩; clear hK K))
    refine Wq.nil ?_
    rintro _ ⟨u, rfl⟩
    obtain ⟨w3, hb⟩ := u
    simp only []
    have hx : w3.heap[w.heap.size]? = some (.cells (cfgA c) 27 (0, 0)) := by
      rw [hb.block _ (World.block_lt_of_cell? _ _ (X0 ⟨w2, Below.refl _ _⟩))]
      exact HX2.out
    have HB3 := Lib.hid (HB2.out.trans (hb.mono HB2.out.size))
    clear hb X0 X1 X2 X3 X4 X5 X6 X7 X8 X9 X10 X11 X12 X13 X14
    have c0 : w3.cell? ⟨w.heap.size, 0, none⟩ = some (.int .i64 c.n) := cell_of_row _ _ 0 _ _ _ hx
    have c1 : w3.cell? ⟨w.heap.size, 1, none⟩ = some (.int .i64 c.s) := cell_of_row _ _ 1 _ _ _ hx
    have c2 : w3.cell? ⟨w.heap.size, 2, none⟩ = some (.int .i64 c.t) := cell_of_row _ _ 2 _ _ _ hx
    have c3 : w3.cell? ⟨w.heap.size, 3, none⟩ = some (.int .i64 c.r0) := cell_of_row _ _ 3 _ _ _ hx
    have c4 : w3.cell? ⟨w.heap.size, 4, none⟩ = some (.int .i64 c.r1) := cell_of_row _ _ 4 _ _ _ hx
    have c5 : w3.cell? ⟨w.heap.size, 5, none⟩ = some (.int .i64 c.r2) := cell_of_row _ _ 5 _ _ _ hx
    have c6 : w3.cell? ⟨w.heap.size, 6, none⟩ = some (.int .i64 c.r3) := cell_of_row _ _ 6 _ _ _ hx
    have c7 : w3.cell? ⟨w.heap.size, 7, none⟩ = some (.int .i64 c.r4) := cell_of_row _ _ 7 _ _ _ hx
    have c8 : w3.cell? ⟨w.heap.size, 8, none⟩ = some (.int .i64 c.r5) := cell_of_row _ _ 8 _ _ _ hx
    have c9 : w3.cell? ⟨w.heap.size, 9, none⟩ = some (.int .i64 c.r6) := cell_of_row _ _ 9 _ _ _ hx
    have c10 : w3.cell? ⟨w.heap.size, 10, none⟩ = some (.int .i64 c.r7) := cell_of_row _ _ 10 _ _ _ hx
    have c11 : w3.cell? ⟨w.heap.size, 11, none⟩ = some (.int .i64 c.r8) := cell_of_row _ _ 11 _ _ _ hx
    have c12 : w3.cell? ⟨w.heap.size, 12, none⟩ = some (.int .i64 c.r9) := cell_of_row _ _ 12 _ _ _ hx
    have c13 : w3.cell? ⟨w.heap.size, 13, none⟩ = some (.int .i64 c.ra) := cell_of_row _ _ 13 _ _ _ hx
    have c14 : w3.cell? ⟨w.heap.size, 14, none⟩ = some (.int .i64 c.rb) := cell_of_row _ _ 14 _ _ _ hx
    have HX3 := Lib.hid hx
    clear hx
    go_wp2_with fail
    have X0 := Ext.cell c0
    have X1 := Ext.cell c1
    have X2 := Ext.cell c2
    have X3 := Ext.cell c3
    have X4 := Ext.cell c4
    have X5 := Ext.cell c5
    have X6 := Ext.cell c6
    have X7 := Ext.cell c7
    have X8 := Ext.cell c8
    have X9 := Ext.cell c9
    have X10 := Ext.cell c10
    have X11 := Ext.cell c11
    have X12 := Ext.cell c12
    have X13 := Ext.cell c13
    have X14 := Ext.cell c14
    clear c0 c1 c2 c3 c4 c5 c6 c7 c8 c9 c10 c11 c12 c13 c14
    refine wq_region (by kernel_rfl) (by kernel_rfl) ?_
    repeat (refine Wq.step (fun K hK => ?_); go_simp; first | (refine hK _ ?_; clear hK K) | (refine ⟨_, fun _ => rfl, hK _ ?_⟩; clear hK K))
    refine Wq.step (fun K hK => ?_)
    go_simp
    apply Exists.intro
    refine ⟨fun _ => ?_, hK _ ?_⟩
    · exact Ext.call _ (start_c c core _ _ _ HL.out)
    clear hK K
    repeat (refine Wq.step (fun K hK => ?_); go_simp; first | (refine hK _ ?_; clear hK K) | (refine ⟨_, fun _ => rfl, hK _ ?_⟩; clear hK K))
    refine Wq.step (fun K hK => ?_)
    go_simp
    apply Exists.intro
    refine ⟨fun _ => ?_, hK _ ?_⟩
    · exact Ext.call _ (start_c c core _ _ _ HS.out)
    clear hK K
    repeat (refine Wq.step (fun K hK => ?_); go_simp; first | (refine hK _ ?_; clear hK K) | (refine ⟨_, fun _ => rfl, hK _ ?_⟩; clear hK K))
    refine Wq.nil ?_
    rintro _ ⟨u, rfl⟩
    obtain ⟨w4, hb⟩ := u
    simp only []
    have hx : w4.heap[w.heap.size]? = some (.cells (cfgA c) 27 (0, 0)) := by
      rw [hb.block _ (World.block_lt_of_cell? _ _ (X0 ⟨w3, Below.refl _ _⟩))]
      exact HX3.out
    have HB4 := Lib.hid (HB3.out.trans (hb.mono HB3.out.size))
    clear hb X0 X1 X2 X3 X4 X5 X6 X7 X8 X9 X10 X11 X12 X13 X14
    have c0 : w4.cell? ⟨w.heap.size, 0, none⟩ = some (.int .i64 c.n) := cell_of_row _ _ 0 _ _ _ hx
    have c1 : w4.cell? ⟨w.heap.size, 1, none⟩ = some (.int .i64 c.s) := cell_of_row _ _ 1 _ _ _ hx
    have c2 : w4.cell? ⟨w.heap.size, 2, none⟩ = some (.int .i64 c.t) := cell_of_row _ _ 2 _ _ _ hx
    have c3 : w4.cell? ⟨w.heap.size, 3, none⟩ = some (.int .i64 c.r0) := cell_of_row _ _ 3 _ _ _ hx
    have c4 : w4.cell? ⟨w.heap.size, 4, none⟩ = some (.int .i64 c.r1) := cell_of_row _ _ 4 _ _ _ hx
    have c5 : w4.cell? ⟨w.heap.size, 5, none⟩ = some (.int .i64 c.r2) := cell_of_row _ _ 5 _ _ _ hx
    have c6 : w4.cell? ⟨w.heap.size, 6, none⟩ = some (.int .i64 c.r3) := cell_of_row _ _ 6 _ _ _ hx
    have c7 : w4.cell? ⟨w.heap.size, 7, none⟩ = some (.int .i64 c.r4) := cell_of_row _ _ 7 _ _ _ hx
    have c8 : w4.cell? ⟨w.heap.size, 8, none⟩ = some (.int .i64 c.r5) := cell_of_row _ _ 8 _ _ _ hx
    have c9 : w4.cell? ⟨w.heap.size, 9, none⟩ = some (.int .i64 c.r6) := cell_of_row _ _ 9 _ _ _ hx
    have c10 : w4.cell? ⟨w.heap.size, 10, none⟩ = some (.int .i64 c.r7) := cell_of_row _ _ 10 _ _ _ hx
    have c11 : w4.cell? ⟨w.heap.size, 11, none⟩ = some (.int .i64 c.r8) := cell_of_row _ _ 11 _ _ _ hx
    have c12 : w4.cell? ⟨w.heap.size, 12, none⟩ = some (.int .i64 c.r9) := cell_of_row _ _ 12 _ _ _ hx
    have c13 : w4.cell? ⟨w.heap.size, 13, none⟩ = some (.int .i64 c.ra) := cell_of_row _ _ 13 _ _ _ hx
    have c14 : w4.cell? ⟨w.heap.size, 14, none⟩ = some (.int .i64 c.rb) := cell_of_row _ _ 14 _ _ _ hx
    have HX4 := Lib.hid hx
    clear hx
    go_wp2_with fail
    have X0 := Ext.cell c0
    have X1 := Ext.cell c1
    have X2 := Ext.cell c2
    have X3 := Ext.cell c3
    have X4 := Ext.cell c4
    have X5 := Ext.cell c5
    have X6 := Ext.cell c6
    have X7 := Ext.cell c7
    have X8 := Ext.cell c8
    have X9 := Ext.cell c9
    have X10 := Ext.cell c10
    have X11 := Ext.cell c11
    have X12 := Ext.cell c12
    have X13 := Ext.cell c13
    have X14 := Ext.cell c14
    clear c0 c1 c2 c3 c4 c5 c6 c7 c8 c9 c10 c11 c12 c13 c14
    refine wq_region (by kernel_rfl) (by kernel_rfl) ?_
    repeat (refine Wq.step (fun K hK => ?_); go_simp; first | (refine hK _ ?_; clear hK K) | (refine ⟨_, fun _ => rfl, hK _ ?_⟩; clear hK K))
    refine Wq.step (fun K hK => ?_)
    go_simp
    apply Exists.intro
    refine ⟨fun _ => ?_, hK _ ?_⟩
    · exact Ext.call _ (start_c c m _ _ _ HN.out)
    clear hK K
    repeat (refine Wq.step (fun K hK => ?_); go_simp; first | (refine hK _ ?_; clear hK K) | (refine ⟨_, fun _ => rfl, hK _ ?_⟩; clear hK K))
    refine Wq.step (fun K hK => ?_)
    go_simp
    apply Exists.intro
    refine ⟨fun _ => ?_, hK _ ?_⟩
    · exact Ext.call _ (start_c c core _ _ _ HS.out)
    clear hK K
    repeat (refine Wq.step (fun K hK => ?_); go_simp; first | (refine hK _ ?_; clear hK K) | (refine ⟨_, fun _ => rfl, hK _ ?_⟩; clear hK K))
    refine Wq.nil ?_
    rintro _ ⟨u, rfl⟩
    obtain ⟨w5, hb⟩ := u
    simp only []
    have HB5 := Lib.hid (HB4.out.trans (hb.mono HB4.out.size))
    clear hb
    go_wp2_with fail
    go_ret
    go_light
    exact ⟨rfl, HB5.out⟩
end Go.Proofs.Ytjdkaagkaambkab
