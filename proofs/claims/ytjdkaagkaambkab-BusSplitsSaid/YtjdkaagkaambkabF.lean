/- The bus: Bandwidth. -/
import Derived.Test.YtjdkaagkaambkabE
namespace Go.Proofs.Ytjdkaagkaambkab
open Go.RowKit Go.Proofs

def bnd2 (c : Cfg) (fr to_ f k : Int) : Int := (if k = 1 then part c fr to_ f else part c fr to_ f + part c fr to_ (f + (k - 1) * c.n)) + max (k - 2) 0 * (c.s / c.t)
def bnd1 (c : Cfg) (fr to_ f l : Int) : Int := if l < f then 0 else bnd2 c fr to_ f ((l - f) / c.n + 1)
def bnd (c : Cfg) (core fr to_ : Int) : Int := if use c core [fr, to_] = true then (if to_ ≤ fr then 0 else bnd1 c fr to_ (ownd c core (fr / c.s)) ((to_ - 1) / c.s)) else -1

theorem part_bounds (c : Cfg) (fr to_ slot : Int) (hv : vld c = true) : 0 ≤ part c fr to_ slot ∧ part c fr to_ slot ≤ 1000000 := by
  obtain ⟨n1, n4, t1, ts, s6⟩ := vld_n hv
  have hm : (slot + 1) * c.s = slot * c.s + c.s := by rw [Int.add_mul]; omega
  have h1 : 0 ≤ max (min to_ ((slot + 1) * c.s) - max fr (slot * c.s)) 0 := by omega
  have h2 : max (min to_ ((slot + 1) * c.s) - max fr (slot * c.s)) 0 ≤ 1000000 := by omega
  have h3 : max (min to_ ((slot + 1) * c.s) - max fr (slot * c.s)) 0 / c.t ≤ max (min to_ ((slot + 1) * c.s) - max fr (slot * c.s)) 0 := Int.ediv_le_self _ h1
  exact ⟨Int.ediv_nonneg h1 (by omega), by unfold part; omega⟩

theorem box3_later {w w1 : World} {c : Cfg} {x y : Int} {o : Obj} (hb : Below ((((w.alloc (.cells (cfgA c) 27)).alloc (.cells #[.int .i64 x] 3)).alloc (.cells #[.int .i64 y] 3)).alloc o).heap.size ((((w.alloc (.cells (cfgA c) 27)).alloc (.cells #[.int .i64 x] 3)).alloc (.cells #[.int .i64 y] 3)).alloc o) w1) :
    w1.heap[w.heap.size]? = some (.cells (cfgA c) 27 (0, 0)) ∧ w1.cell? ⟨w.heap.size + 1, 0, none⟩ = some (.int .i64 x) ∧ w1.cell? ⟨w.heap.size + 1 + 1, 0, none⟩ = some (.int .i64 y) ∧ Below w.heap.size w w1 := by
  have h : w1.heap[w.heap.size]? = some (.cells (cfgA c) 27 (0, 0)) := by
    rw [hb.block _ (by simp; omega), Below.heap_alloc _ _ _ (by simp; omega), Below.heap_alloc _ _ _ (by simp; omega), Below.heap_alloc _ _ _ (by simp)]
    exact heap_alloc_new w _
  have h1 : w1.heap[w.heap.size + 1]? = some (.cells #[.int .i64 x] 3 (0, 0)) := by
    rw [hb.block _ (by simp), Below.heap_alloc _ _ _ (by simp), Below.heap_alloc _ _ _ (by simp)]
    have := heap_alloc_new (w.alloc (.cells (cfgA c) 27)) (.cells #[.int .i64 x] 3)
    have e : (w.alloc (.cells (cfgA c) 27)).heap.size = w.heap.size + 1 := by simp
    rwa [e] at this
  have h2 : w1.heap[w.heap.size + 1 + 1]? = some (.cells #[.int .i64 y] 3 (0, 0)) := by
    rw [hb.block _ (by simp), Below.heap_alloc _ _ _ (by simp)]
    have := heap_alloc_new ((w.alloc (.cells (cfgA c) 27)).alloc (.cells #[.int .i64 x] 3)) (.cells #[.int .i64 y] 3)
    have e : ((w.alloc (.cells (cfgA c) 27)).alloc (.cells #[.int .i64 x] 3)).heap.size = w.heap.size + 1 + 1 := by simp
    rwa [e] at this
  exact ⟨h, cell_of_row _ _ 0 _ _ _ h1, cell_of_row _ _ 0 _ _ _ h2, (((((Below.refl _ _).alloc (Nat.le_refl _) _).alloc (by simp) _).alloc (by simp; omega) _).alloc (by simp; omega) _).trans (hb.mono (by simp; omega))⟩

theorem ints_two4 (w : World) (c : Cfg) (x y : Int) : Ints ((((w.alloc (.cells (cfgA c) 27)).alloc (.cells #[.int .i64 x] 3)).alloc (.cells #[.int .i64 y] 3)).alloc (.cells #[.int .i64 x, .int .i64 y] 3)) (.slice (some ⟨w.heap.size + 1 + 1 + 1, 0, none⟩) 2 2) [x, y] := by
  have := ints_two (((w.alloc (.cells (cfgA c) 27)).alloc (.cells #[.int .i64 x] 3)).alloc (.cells #[.int .i64 y] 3)) x y
  have e : (((w.alloc (.cells (cfgA c) 27)).alloc (.cells #[.int .i64 x] 3)).alloc (.cells #[.int .i64 y] 3)).heap.size = w.heap.size + 1 + 1 + 1 := by simp
  rwa [e] at this

theorem slot_facts {n s t f l a : Int} (n1 : 1 ≤ n) (n4 : n ≤ 4) (t1 : 1 ≤ t) (s1 : 1 ≤ s) (s6 : s ≤ 1000000) (f0 : 0 ≤ f) (hfl : f ≤ l) (hl : l * s ≤ a) (ha : a ≤ 1099511627776) :
    0 ≤ (l - f) / n ∧ (l - f) / n ≤ l ∧ 0 ≤ (l - f) / n * n ∧ f + (l - f) / n * n ≤ l ∧ l < f + ((l - f) / n * n + n) ∧ (1 ≤ (l - f) / n → n ≤ (l - f) / n * n) ∧ l ≤ 1099511627776 ∧
    0 ≤ f * s ∧ f * s ≤ a ∧ 0 ≤ (f + (l - f) / n * n) * s ∧ (f + (l - f) / n * n) * s ≤ a ∧ 0 ≤ max ((l - f) / n + 1 - 2) 0 * (s / t) ∧ max ((l - f) / n + 1 - 2) 0 * (s / t) ≤ a := by
  have h1 : 0 ≤ (l - f) / n := Int.ediv_nonneg (by omega) (by omega)
  have h2 : (l - f) / n ≤ l - f := Int.ediv_le_self _ (by omega)
  have h3 : 0 ≤ (l - f) / n * n := Int.mul_nonneg h1 (by omega)
  have h4 : (l - f) / n * n ≤ l - f := Int.ediv_mul_le _ (by omega)
  have h5 : l - f < ((l - f) / n + 1) * n := Int.lt_ediv_add_one_mul_self _ (by omega)
  rw [Int.add_mul, Int.one_mul] at h5
  have h6 : 1 ≤ (l - f) / n → n ≤ (l - f) / n * n := fun h => by
    have := Int.mul_le_mul_of_nonneg_right (c := n) h (by omega)
    omega
  have h7 : l * 1 ≤ l * s := Int.mul_le_mul_of_nonneg_left s1 (by omega)
  have h8 : f * s ≤ l * s := Int.mul_le_mul_of_nonneg_right hfl (by omega)
  have h9 : (f + (l - f) / n * n) * s ≤ l * s := Int.mul_le_mul_of_nonneg_right (by omega) (by omega)
  have q0 : 0 ≤ s / t := Int.ediv_nonneg (by omega) (by omega)
  have q1 : s / t ≤ s := Int.ediv_le_self _ (by omega)
  have m0 : 0 ≤ max ((l - f) / n + 1 - 2) 0 := by omega
  have m1 : max ((l - f) / n + 1 - 2) 0 ≤ l := by omega
  have h10 : max ((l - f) / n + 1 - 2) 0 * (s / t) ≤ l * s := Int.le_trans (Int.mul_le_mul_of_nonneg_right m1 q0) (Int.mul_le_mul_of_nonneg_left q1 (by omega))
  refine ⟨h1, by omega, h3, by omega, by omega, h6, by omega, Int.mul_nonneg f0 (by omega), by omega, Int.mul_nonneg (by omega) (by omega), by omega, Int.mul_nonneg m0 q0, by omega⟩

set_option maxHeartbeats 2000000 in
set_option maxRecDepth 1000000 in
theorem bnd_any (c : Cfg) (core fr to_ : Int) (w : World) : Calls Try.prog 16 #[cfgV c, .int .i64 core, .int .i64 fr, .int .i64 to_] w (IntEnd w (bnd c core fr to_)) := by
  obtain ⟨b, hu⟩ : ∃ b, use c core [fr, to_] = b := ⟨_, rfl⟩
  have HU := Lib.hid hu
  clear hu
  have l1 : w.heap.size < w.heap.size + 1 := by omega
  have l2 : w.heap.size < w.heap.size + 1 + 1 := by omega
  have l3 : w.heap.size + 1 < w.heap.size + 1 + 1 := by omega
  go_enter Try.func16, Try.ntmps16
  go_wp2_with fail
  refine (usable_any c core _ 2 2 [fr, to_] _ (ints_two4 w c fr to_) rfl (by omega)).mono ?_
  rintro e w1 ⟨rfl, hb1⟩
  rw [HU.out]
  obtain ⟨hbx, hpx, hrx, hbw⟩ := box3_later (w := w) (c := c) hb1
  have HB := Lib.hid hbw
  have HBx := Lib.hid hbx
  have X0 : ∀ u : Ext w1, u.1.cell? ⟨w.heap.size, 0, none⟩ = some (.int .i64 c.n) := Ext.cell (cell_of_row w1 _ 0 _ _ _ hbx)
  have X1 : ∀ u : Ext w1, u.1.cell? ⟨w.heap.size, 1, none⟩ = some (.int .i64 c.s) := Ext.cell (cell_of_row w1 _ 1 _ _ _ hbx)
  have X2 : ∀ u : Ext w1, u.1.cell? ⟨w.heap.size, 2, none⟩ = some (.int .i64 c.t) := Ext.cell (cell_of_row w1 _ 2 _ _ _ hbx)
  have X3 : ∀ u : Ext w1, u.1.cell? ⟨w.heap.size, 3, none⟩ = some (.int .i64 c.r0) := Ext.cell (cell_of_row w1 _ 3 _ _ _ hbx)
  have X4 : ∀ u : Ext w1, u.1.cell? ⟨w.heap.size, 4, none⟩ = some (.int .i64 c.r1) := Ext.cell (cell_of_row w1 _ 4 _ _ _ hbx)
  have X5 : ∀ u : Ext w1, u.1.cell? ⟨w.heap.size, 5, none⟩ = some (.int .i64 c.r2) := Ext.cell (cell_of_row w1 _ 5 _ _ _ hbx)
  have X6 : ∀ u : Ext w1, u.1.cell? ⟨w.heap.size, 6, none⟩ = some (.int .i64 c.r3) := Ext.cell (cell_of_row w1 _ 6 _ _ _ hbx)
  have X7 : ∀ u : Ext w1, u.1.cell? ⟨w.heap.size, 7, none⟩ = some (.int .i64 c.r4) := Ext.cell (cell_of_row w1 _ 7 _ _ _ hbx)
  have X8 : ∀ u : Ext w1, u.1.cell? ⟨w.heap.size, 8, none⟩ = some (.int .i64 c.r5) := Ext.cell (cell_of_row w1 _ 8 _ _ _ hbx)
  have X9 : ∀ u : Ext w1, u.1.cell? ⟨w.heap.size, 9, none⟩ = some (.int .i64 c.r6) := Ext.cell (cell_of_row w1 _ 9 _ _ _ hbx)
  have X10 : ∀ u : Ext w1, u.1.cell? ⟨w.heap.size, 10, none⟩ = some (.int .i64 c.r7) := Ext.cell (cell_of_row w1 _ 10 _ _ _ hbx)
  have X11 : ∀ u : Ext w1, u.1.cell? ⟨w.heap.size, 11, none⟩ = some (.int .i64 c.r8) := Ext.cell (cell_of_row w1 _ 11 _ _ _ hbx)
  have X12 : ∀ u : Ext w1, u.1.cell? ⟨w.heap.size, 12, none⟩ = some (.int .i64 c.r9) := Ext.cell (cell_of_row w1 _ 12 _ _ _ hbx)
  have X13 : ∀ u : Ext w1, u.1.cell? ⟨w.heap.size, 13, none⟩ = some (.int .i64 c.ra) := Ext.cell (cell_of_row w1 _ 13 _ _ _ hbx)
  have X14 : ∀ u : Ext w1, u.1.cell? ⟨w.heap.size, 14, none⟩ = some (.int .i64 c.rb) := Ext.cell (cell_of_row w1 _ 14 _ _ _ hbx)
  have XP := Ext.cell hpx
  have XR := Ext.cell hrx
  clear hb1 hbw hbx l1 l2 l3
  cases b with
  | false =>
    clear X0 X1 X2 X3 X4 X5 X6 X7 X8 X9 X10 X11 X12 X13 X14 XP XR
    go_wp2_with fail
    go_ret
    go_light
    have : bnd c core fr to_ = -1 := by rw [bnd, if_neg (by rw [HU.out]; simp)]
    rw [IntEnd, this]
    exact ⟨rfl, HB.out⟩
  | true =>
    by_cases htf : to_ ≤ fr
    · clear X0 X1 X2 X3 X4 X5 X6 X7 X8 X9 X10 X11 X12 X13 X14 XP XR
      go_wp2_with fail
      go_ret
      go_light
      have : bnd c core fr to_ = 0 := by rw [bnd, if_pos HU.out, if_pos htf]
      rw [IntEnd, this]
      exact ⟨rfl, HB.out⟩
    · obtain ⟨hv, hc0, hcn, hc⟩ := use_true HU.out
      obtain ⟨n1, n4, t1, ts, s6⟩ := vld_n hv
      obtain ⟨f0, f1⟩ := hc fr (by simp)
      obtain ⟨o0, o1⟩ := hc to_ (by simp)
      have HV := Lib.hid hv
      have HBD : Hid (bnd c core fr to_ = bnd1 c fr to_ (ownd c core (fr / c.s)) ((to_ - 1) / c.s)) := Lib.hid (by rw [bnd, if_pos HU.out, if_neg htf])
      obtain ⟨d1, d2, d3, d4⟩ := div_ok (a := fr) (s := c.s) f0 (by omega) (by omega)
      obtain ⟨g1, g2, g3, g4⟩ := div_ok (a := to_ - 1) (s := c.s) (by omega) (by omega) (by omega)
      have gl : (to_ - 1) / c.s * c.s ≤ to_ - 1 := Int.ediv_mul_le _ (by omega)
      have w0 : IntKind.i64.wrap (to_ - 1) = to_ - 1 := IntWalk.i64_in _ (by omega)
      have hob := ownd_bounds c core (fr / c.s) n1
      obtain ⟨q, hq⟩ : ∃ q, fr / c.s = q := ⟨_, rfl⟩
      obtain ⟨f, hf⟩ : ∃ f, ownd c core q = f := ⟨_, rfl⟩
      obtain ⟨l, hl⟩ : ∃ l, (to_ - 1) / c.s = l := ⟨_, rfl⟩
      rw [hq] at d1 d2 d3 d4 hob
      rw [hf] at hob
      rw [hl] at g1 g2 g3 g4 gl
      rw [hq, hf, hl] at HBD
      have HF := Lib.hid hf
      have hn0 : ¬ c.n = 0 := by omega
      have hs0 : ¬ c.s = 0 := by omega
      have ht0 : ¬ c.t = 0 := by omega
      clear hv hc hq hf hl
      go_wp2_with fail
      refine wq_region (by kernel_rfl) (by kernel_rfl) ?_
      repeat (refine Wq.step (fun K hK => ?_); go_simp; first | (refine hK _ ?_; clear hK K) | (refine ⟨_, fun _ => rfl, hK _ ?_⟩; clear hK K) | (apply Exists.intro; refine ⟨fun _ => ?_, hK _ ?_⟩; (exact Ext.call _ (owned_b c core _ f _ HV.out (by omega) (by omega) (by omega) (by omega) HF.out)); clear hK K))
      refine Wq.nil ?_
      rintro _ ⟨u, rfl⟩
      have HB2 := Lib.hid (HB.out.trans (u.2.mono HB.out.size))
      have y0 := X0 u
      have y1 := X1 u
      have y2 := X2 u
      have yp := XP u
      have yr := XR u
      have hbx2 : u.1.heap[w.heap.size]? = some (.cells (cfgA c) 27 (0, 0)) := by
        rw [u.2.block _ (World.block_lt_of_cell? _ _ (X0 ⟨w1, Below.refl _ _⟩))]
        exact HBx.out
      have HBx2 := Lib.hid hbx2
      obtain ⟨w2, hw2⟩ : ∃ w2, u.1 = w2 := ⟨_, rfl⟩
      rw [hw2] at HB2 HBx2 y0 y1 y2 yp yr ⊢
      clear X0 X1 X2 X3 X4 X5 X6 X7 X8 X9 X10 X11 X12 X13 X14 XP XR hbx2 hw2 HBx
      by_cases hlf : l < f
      · go_wp2_with fail
        go_ret
        go_light
        rw [IntEnd, HBD.out, bnd1, if_pos hlf]
        exact ⟨rfl, HB2.out⟩
      · have hfl : f ≤ l := by omega
        obtain ⟨k0, k1, k2, k3, k4, k5, k6, v0, v1, v2, v3, v4, v5⟩ := slot_facts (t := c.t) n1 n4 t1 (by omega) s6 (by omega) hfl gl (by omega)
        have e1 : (l - f).tdiv c.n = (l - f) / c.n := Int.tdiv_eq_ediv_of_nonneg (by omega)
        have HB3 : Hid (bnd c core fr to_ = bnd2 c fr to_ f ((l - f) / c.n + 1)) := Lib.hid (by rw [HBD.out, bnd1, if_neg hlf])
        obtain ⟨z, hz⟩ : ∃ z, (l - f) / c.n = z := ⟨_, rfl⟩
        rw [hz] at k0 k1 k2 k3 k4 k5 v2 v3 v4 v5 e1 HB3
        obtain ⟨k, hk⟩ : ∃ k, z + 1 = k := ⟨_, rfl⟩
        rw [hk] at v4 v5 HB3
        obtain ⟨m, hm⟩ : ∃ m, z * c.n = m := ⟨_, rfl⟩
        rw [hm] at k2 k3 k4 k5 v2 v3
        have hkz : k - 1 = z := by omega
        obtain ⟨h, hh⟩ : ∃ h, max (k - 2) 0 = h := ⟨_, rfl⟩
        obtain ⟨x, hx⟩ : ∃ x, c.s / c.t = x := ⟨_, rfl⟩
        obtain ⟨p, hp⟩ : ∃ p, h * x = p := ⟨_, rfl⟩
        rw [hh, hx, hp] at v4 v5
        obtain ⟨pf, hpf⟩ : ∃ pf, part c fr to_ f = pf := ⟨_, rfl⟩
        obtain ⟨pl, hpl⟩ : ∃ pl, part c fr to_ (f + m) = pl := ⟨_, rfl⟩
        have HPF := Lib.hid hpf
        have HPL := Lib.hid hpl
        have bf := part_bounds c fr to_ f HV.out
        have bl := part_bounds c fr to_ (f + m) HV.out
        rw [hpf] at bf
        rw [hpl] at bl
        have HB4 : Hid (bnd c core fr to_ = (if k = 1 then pf else pf + pl) + p) := Lib.hid (by rw [HB3.out, bnd2, hkz, hm, hh, hx, hp, hpf, hpl])
        have i1 : IntKind.i64.wrap (l - f) = l - f := IntWalk.i64_in _ (by omega)
        have i2 : IntKind.i64.wrap z = z := IntWalk.i64_in _ (by omega)
        have i3 : IntKind.i64.wrap (z + 1) = k := by rw [hk]; exact IntWalk.i64_in _ (by omega)
        have i4 : IntKind.i64.wrap (k - 1) = z := by rw [hkz]; exact i2
        have i5 : IntKind.i64.wrap (z * c.n) = m := by rw [hm]; exact IntWalk.i64_in _ (by omega)
        have i6 : IntKind.i64.wrap (k - 2) = k - 2 := IntWalk.i64_in _ (by omega)
        have e2 : c.s.tdiv c.t = x := by rw [← hx]; exact Int.tdiv_eq_ediv_of_nonneg (by omega)
        have hxb : 0 ≤ x ∧ x ≤ c.s := by rw [← hx]; exact ⟨Int.ediv_nonneg (by omega) (by omega), Int.ediv_le_self _ (by omega)⟩
        have i7 : IntKind.i64.wrap x = x := IntWalk.i64_in _ (by omega)
        have i8 : IntKind.i64.wrap (h * x) = p := by rw [hp]; exact IntWalk.i64_in _ (by omega)
        have i9 : IntKind.i64.wrap (0 + pf) = pf := by rw [Int.zero_add]; exact IntWalk.i64_in _ (by omega)
        have i9' : IntKind.i64.wrap pf = pf := IntWalk.i64_in _ (by omega)
        have i10 : IntKind.i64.wrap (pf + pl) = pf + pl := IntWalk.i64_in _ (by omega)
        have i11 : IntKind.i64.wrap (pf + p) = pf + p := IntWalk.i64_in _ (by omega)
        have i12 : IntKind.i64.wrap (pf + pl + p) = pf + pl + p := IntWalk.i64_in _ (by omega)
        have i13 : IntKind.i64.wrap (f + m) = f + m := IntWalk.i64_in _ (by omega)
        have i14 : IntKind.i64.wrap (f + m + m) = f + m + m := IntWalk.i64_in _ (by omega)
        have hf0 : 0 ≤ f := by omega
        clear hpf hpl hz hm hx hp hlf hk
        go_wp2_with fail
        go_loopg [13, 14] 2 (fun g sv jv wr => ∃ s j : Int, sv = .int .i64 s ∧ jv = .int .i64 j ∧ ((g = 2 ∧ s = 0 ∧ j = f) ∨ (g = 1 ∧ k ≠ 1 ∧ s = pf ∧ j = f + m) ∨ (g = 0 ∧ k ≠ 1 ∧ s = pf + pl ∧ j = f + m + m)) ∧ Below w2.heap.size w2 wr)
        case atStart => exact ⟨0, f, rfl, rfl, Or.inl ⟨rfl, rfl, rfl⟩, Below.refl _ _⟩
        case round =>
          obtain ⟨s, j, rfl, rfl, hcase, hwb⟩ := hrel
          have y0' := cell_later hwb y0
          have y1' := cell_later hwb y1
          have y2' := cell_later hwb y2
          have yp' := cell_later hwb yp
          have yr' := cell_later hwb yr
          have hbw2 : wr.heap[w.heap.size]? = some (.cells (cfgA c) 27 (0, 0)) := by
            rw [hwb.block _ (World.block_lt_of_cell? _ _ y0)]
            exact HBx2.out
          have HWB := Lib.hid hwb
          have HBW := Lib.hid hbw2
          clear hwb hbw2 y0 y1 y2 yp yr
          rcases hcase with ⟨rfl, rfl, rfl⟩ | ⟨rfl, hk1, rfl, rfl⟩ | ⟨rfl, hk1, rfl, rfl⟩
          · by_cases hk1 : k = 1
            · have HK := Lib.hid hk1
              have hh0 : max (-1 : Int) 0 = h := by rw [← hh, hk1]; rfl
              go_wp2_with fail
              refine (part_any c fr to_ j _ _ _ wr HV.out yp' HBW.out yr' f0 f1 o0 o1 v0 (by omega) hf0 (by omega)).mono ?_
              rintro e w3 ⟨rfl, hb3⟩
              rw [HPF.out]
              have y1'' := cell_later hb3 y1'
              have y2'' := cell_later hb3 y2'
              have H3 := Lib.hid (HB2.out.trans ((HWB.out.trans (hb3.mono HWB.out.size)).mono HB2.out.size))
              clear hb3 y0' y1' y2' yp' yr'
              go_wp2_with fail
              go_ret
              go_light
              rw [IntEnd, HB4.out, if_pos HK.out]
              exact ⟨rfl, H3.out⟩
            · have hmax : max m 1 = m := by have := k5 (by omega); omega
              go_wp2_with fail
              refine (part_any c fr to_ j _ _ _ wr HV.out yp' HBW.out yr' f0 f1 o0 o1 v0 (by omega) hf0 (by omega)).mono ?_
              rintro e w3 ⟨rfl, hb3⟩
              rw [HPF.out]
              have y0'' := cell_later hb3 y0'
              have H3 := Lib.hid (HWB.out.trans (hb3.mono HWB.out.size))
              clear hb3 y0' y1' y2' yp' yr'
              go_wp2_with fail
              go_roundg 1
              case measure => go_light; omega
              case rel =>
                go_light
                exact ⟨_, _, rfl, rfl, Or.inr (Or.inl ⟨rfl, hk1, rfl, rfl⟩), H3.out⟩
          · have hmax : max m 1 = m := by have := k5 (by omega); omega
            go_wp2_with fail
            refine (part_any c fr to_ (f + m) _ _ _ wr HV.out yp' HBW.out yr' f0 f1 o0 o1 v2 (by omega) (by omega) (by omega)).mono ?_
            rintro e w3 ⟨rfl, hb3⟩
            rw [HPL.out]
            have y0'' := cell_later hb3 y0'
            have H3 := Lib.hid (HWB.out.trans (hb3.mono HWB.out.size))
            clear hb3 y0' y1' y2' yp' yr'
            go_wp2_with fail
            go_roundg 0
            case measure => go_light; omega
            case rel =>
              go_light
              exact ⟨_, _, rfl, rfl, Or.inr (Or.inr ⟨rfl, hk1, rfl, rfl⟩), H3.out⟩
          · have hend : l < f + m + m := by have := k5 (by omega); omega
            have H3 := Lib.hid (HB2.out.trans (HWB.out.mono HB2.out.size))
            have HK := Lib.hid hk1
            go_wp2_with fail
            go_ret
            go_light
            rw [IntEnd, HB4.out, if_neg HK.out]
            exact ⟨rfl, H3.out⟩
end Go.Proofs.Ytjdkaagkaambkab
