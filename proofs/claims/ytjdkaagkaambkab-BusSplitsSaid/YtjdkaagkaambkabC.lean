/- The bus: Start, Done, MaxWait, MaxTransfer, each by a contract. -/
import Derived.Test.YtjdkaagkaambkabB
namespace Go.Proofs.Ytjdkaagkaambkab
open Go.RowKit Go.Proofs

theorem owned_b (c : Cfg) (core slot o : Int) (w : World) (hv : vld c = true) (h0 : 0 ≤ core) (h1 : core < c.n) (h2 : 0 ≤ slot) (h3 : slot ≤ 2000000000000) (ho : ownd c core slot = o) :
    Calls Try.prog 25 #[cfgV c, .int .i64 core, .int .i64 slot] w fun e w' => e = .returned (.int .i64 o) ∧ Below w.heap.size w w' := by
  rw [← ho]; exact owned_any c core slot w hv h0 h1 h2 h3

def strt0 (c : Cfg) (core cyc : Int) : Int := if ownd c core (cyc / c.s) = cyc / c.s ∧ cyc % c.s + c.t ≤ c.s then cyc else ownd c core (cyc / c.s + 1) * c.s
def strt (c : Cfg) (core cyc : Int) : Int := if use c core [cyc] = true then strt0 c core cyc else -1

theorem ownd_bounds (c : Cfg) (core slot : Int) (hn : 1 ≤ c.n) : slot ≤ ownd c core slot ∧ ownd c core slot < slot + c.n := by
  have h1 : 0 ≤ (core - slot % c.n + c.n) % c.n := Int.emod_nonneg _ (by omega)
  have h2 : (core - slot % c.n + c.n) % c.n < c.n := Int.emod_lt_of_pos _ (by omega)
  unfold ownd
  omega

theorem strt_mul {q o s cyc n : Int} (h0 : 0 ≤ q) (hs : 1 ≤ s) (hs2 : s ≤ 1000000) (hq : q * s ≤ cyc) (h1 : q + 1 ≤ o) (h2 : o < q + 1 + n) (hn : n ≤ 4) : 0 ≤ o * s ∧ o * s ≤ cyc + 4000000 := by
  have h3 : o * s ≤ (q + 4) * s := Int.mul_le_mul_of_nonneg_right (by omega) (by omega)
  have h4 : 0 ≤ o * s := Int.mul_nonneg (by omega) (by omega)
  rw [Int.add_mul] at h3
  omega

set_option maxHeartbeats 2000000 in
set_option maxRecDepth 1000000 in
theorem start_any (c : Cfg) (core cyc : Int) (w : World) : Calls Try.prog 14 #[cfgV c, .int .i64 core, .int .i64 cyc] w (IntEnd w (strt c core cyc)) := by
  obtain ⟨b, hu⟩ : ∃ b, use c core [cyc] = b := ⟨_, rfl⟩
  have HU := Lib.hid hu
  clear hu
  go_enter Try.func14, Try.ntmps14
  go_wp2_with fail
  refine (usable_any c core _ 1 1 [cyc] _ (ints_one2 w c cyc) rfl (by omega)).mono ?_
  rintro e w1 ⟨rfl, hb1⟩
  rw [HU.out]
  obtain ⟨x0, x1, x2, hbx, hbw⟩ := box_later (w := w) (c := c) hb1
  have HB := Lib.hid hbw
  have HBx := Lib.hid hbx
  clear hb1 hbw hbx
  cases b with
  | false =>
    go_wp2_with fail
    go_ret
    go_light
    have : strt c core cyc = -1 := by rw [strt, if_neg (by rw [HU.out]; simp)]
    rw [IntEnd, this]
    exact ⟨rfl, HB.out⟩
  | true =>
    obtain ⟨hv, hc0, hcn, hc⟩ := use_true HU.out
    obtain ⟨n1, n4, t1, ts, s6⟩ := vld_n hv
    obtain ⟨c0, c1⟩ := hc cyc (by simp)
    obtain ⟨d1, d2, d3, d4⟩ := div_ok (a := cyc) (s := c.s) c0 (by omega) (by omega)
    have HO : Hid (strt c core cyc = strt0 c core cyc) := Lib.hid (by rw [strt, if_pos HU.out])
    have hqs : cyc / c.s * c.s ≤ cyc := Int.ediv_mul_le _ (by omega)
    have hob := ownd_bounds c core (cyc / c.s + 1) n1
    obtain ⟨q, hq⟩ : ∃ q, cyc / c.s = q := ⟨_, rfl⟩
    obtain ⟨r, hr⟩ : ∃ r, cyc % c.s = r := ⟨_, rfl⟩
    have hr1 : 0 ≤ r := by rw [← hr]; exact Int.emod_nonneg _ (by omega)
    have hr2 : r < c.s := by rw [← hr]; exact Int.emod_lt_of_pos _ (by omega)
    have hrt : cyc.tmod c.s = r := by rw [← hr]; exact Int.tmod_eq_emod_of_nonneg c0
    rw [hq] at d1 d2 d3 d4 hqs hob
    obtain ⟨o, ho⟩ : ∃ o, ownd c core q = o := ⟨_, rfl⟩
    obtain ⟨p, hp⟩ : ∃ p, ownd c core (q + 1) = p := ⟨_, rfl⟩
    rw [hp] at hob
    obtain ⟨m0, m1⟩ := strt_mul (n := c.n) d2 (by omega) s6 hqs hob.1 hob.2 n4
    have hmw : IntKind.i64.wrap (p * c.s) = p * c.s := IntWalk.i64_in _ (by omega)
    have hrw : IntKind.i64.wrap (r + c.t) = r + c.t := IntWalk.i64_in _ (by omega)
    have hqw : IntKind.i64.wrap (q + 1) = q + 1 := IntWalk.i64_in _ (by omega)
    have HQ := Lib.hid hq
    have HRr := Lib.hid hr
    have HOo := Lib.hid ho
    have HPp := Lib.hid hp
    have HV := Lib.hid hv
    have hn0 : ¬ c.n = 0 := by omega
    have hs0 : ¬ c.s = 0 := by omega
    have X0 : ∀ u : Ext w1, u.1.cell? ⟨w.heap.size, 0, none⟩ = some (.int .i64 c.n) := Ext.cell (cell_of_row w1 _ 0 _ _ _ HBx.out)
    have X1 : ∀ u : Ext w1, u.1.cell? ⟨w.heap.size, 1, none⟩ = some (.int .i64 c.s) := Ext.cell (cell_of_row w1 _ 1 _ _ _ HBx.out)
    have X2 : ∀ u : Ext w1, u.1.cell? ⟨w.heap.size, 2, none⟩ = some (.int .i64 c.t) := Ext.cell (cell_of_row w1 _ 2 _ _ _ HBx.out)
    have X3 : ∀ u : Ext w1, u.1.cell? ⟨w.heap.size, 3, none⟩ = some (.int .i64 c.r0) := Ext.cell (cell_of_row w1 _ 3 _ _ _ HBx.out)
    have X4 : ∀ u : Ext w1, u.1.cell? ⟨w.heap.size, 4, none⟩ = some (.int .i64 c.r1) := Ext.cell (cell_of_row w1 _ 4 _ _ _ HBx.out)
    have X5 : ∀ u : Ext w1, u.1.cell? ⟨w.heap.size, 5, none⟩ = some (.int .i64 c.r2) := Ext.cell (cell_of_row w1 _ 5 _ _ _ HBx.out)
    have X6 : ∀ u : Ext w1, u.1.cell? ⟨w.heap.size, 6, none⟩ = some (.int .i64 c.r3) := Ext.cell (cell_of_row w1 _ 6 _ _ _ HBx.out)
    have X7 : ∀ u : Ext w1, u.1.cell? ⟨w.heap.size, 7, none⟩ = some (.int .i64 c.r4) := Ext.cell (cell_of_row w1 _ 7 _ _ _ HBx.out)
    have X8 : ∀ u : Ext w1, u.1.cell? ⟨w.heap.size, 8, none⟩ = some (.int .i64 c.r5) := Ext.cell (cell_of_row w1 _ 8 _ _ _ HBx.out)
    have X9 : ∀ u : Ext w1, u.1.cell? ⟨w.heap.size, 9, none⟩ = some (.int .i64 c.r6) := Ext.cell (cell_of_row w1 _ 9 _ _ _ HBx.out)
    have X10 : ∀ u : Ext w1, u.1.cell? ⟨w.heap.size, 10, none⟩ = some (.int .i64 c.r7) := Ext.cell (cell_of_row w1 _ 10 _ _ _ HBx.out)
    have X11 : ∀ u : Ext w1, u.1.cell? ⟨w.heap.size, 11, none⟩ = some (.int .i64 c.r8) := Ext.cell (cell_of_row w1 _ 11 _ _ _ HBx.out)
    have X12 : ∀ u : Ext w1, u.1.cell? ⟨w.heap.size, 12, none⟩ = some (.int .i64 c.r9) := Ext.cell (cell_of_row w1 _ 12 _ _ _ HBx.out)
    have X13 : ∀ u : Ext w1, u.1.cell? ⟨w.heap.size, 13, none⟩ = some (.int .i64 c.ra) := Ext.cell (cell_of_row w1 _ 13 _ _ _ HBx.out)
    have X14 : ∀ u : Ext w1, u.1.cell? ⟨w.heap.size, 14, none⟩ = some (.int .i64 c.rb) := Ext.cell (cell_of_row w1 _ 14 _ _ _ HBx.out)
    clear hv hc hr ho hp hqs hob
    by_cases hoq : o = q
    · subst hoq
      have t1 : (o == o) = true := by simp
      by_cases hrs : r + c.t ≤ c.s
      · have t2 : decide (r + c.t ≤ c.s) = true := decide_eq_true hrs
        go_wp2_with fail
        refine wq_region (by kernel_rfl) (by kernel_rfl) ?_
        repeat (refine Wq.step (fun K hK => ?_); go_simp; first | (refine hK _ ?_; clear hK K) | (refine ⟨_, fun _ => rfl, hK _ ?_⟩; clear hK K) | (apply Exists.intro; refine ⟨fun _ => ?_, hK _ ?_⟩; (exact Ext.call _ (owned_b c core _ o _ HV.out (by omega) (by omega) (by omega) (by omega) HOo.out)); clear hK K))
        refine Wq.nil ?_
        rintro _ ⟨u, rfl⟩
        go_wp2_with fail
        go_ret
        go_light
        rw [IntEnd, HO.out, strt0, HQ.out, HRr.out, HOo.out, if_pos ⟨rfl, hrs⟩]
        exact ⟨rfl, HB.out.trans (u.2.mono HB.out.size)⟩
      · have t2 : decide (r + c.t ≤ c.s) = false := decide_eq_false hrs
        go_wp2_with fail
        refine wq_region (by kernel_rfl) (by kernel_rfl) ?_
        repeat (refine Wq.step (fun K hK => ?_); go_simp; first | (refine hK _ ?_; clear hK K) | (refine ⟨_, fun _ => rfl, hK _ ?_⟩; clear hK K) | (apply Exists.intro; refine ⟨fun _ => ?_, hK _ ?_⟩; (exact Ext.call _ (owned_b c core _ o _ HV.out (by omega) (by omega) (by omega) (by omega) HOo.out)); clear hK K))
        refine Wq.nil ?_
        rintro _ ⟨u, rfl⟩
        have HU1 := Lib.hid (HB.out.trans (u.2.mono HB.out.size))
        have Y0 := fun x => Ext.cell (X0 u) x
        have Y1 := fun x => Ext.cell (X1 u) x
        have Y2 := fun x => Ext.cell (X2 u) x
        have Y3 := fun x => Ext.cell (X3 u) x
        have Y4 := fun x => Ext.cell (X4 u) x
        have Y5 := fun x => Ext.cell (X5 u) x
        have Y6 := fun x => Ext.cell (X6 u) x
        have Y7 := fun x => Ext.cell (X7 u) x
        have Y8 := fun x => Ext.cell (X8 u) x
        have Y9 := fun x => Ext.cell (X9 u) x
        have Y10 := fun x => Ext.cell (X10 u) x
        have Y11 := fun x => Ext.cell (X11 u) x
        have Y12 := fun x => Ext.cell (X12 u) x
        have Y13 := fun x => Ext.cell (X13 u) x
        have Y14 := fun x => Ext.cell (X14 u) x
        clear X0 X1 X2 X3 X4 X5 X6 X7 X8 X9 X10 X11 X12 X13 X14
        go_wp2_with fail
        refine wq_region (by kernel_rfl) (by kernel_rfl) ?_
        repeat (refine Wq.step (fun K hK => ?_); go_simp; first | (refine hK _ ?_; clear hK K) | (refine ⟨_, fun _ => rfl, hK _ ?_⟩; clear hK K) | (apply Exists.intro; refine ⟨fun _ => ?_, hK _ ?_⟩; (exact Ext.call _ (owned_b c core _ p _ HV.out (by omega) (by omega) (by omega) (by omega) HPp.out)); clear hK K))
        refine Wq.nil ?_
        rintro _ ⟨u2, rfl⟩
        go_wp2_with fail
        go_ret
        go_light
        rw [IntEnd, HO.out, strt0, HQ.out, HRr.out, HOo.out, HPp.out, if_neg (by omega)]
        exact ⟨rfl, HU1.out.trans (u2.2.mono HU1.out.size)⟩
    · have t1 : (o == q) = false := beq_eq_false_iff_ne.2 hoq
      go_wp2_with fail
      refine wq_region (by kernel_rfl) (by kernel_rfl) ?_
      repeat (refine Wq.step (fun K hK => ?_); go_simp; first | (refine hK _ ?_; clear hK K) | (refine ⟨_, fun _ => rfl, hK _ ?_⟩; clear hK K) | (apply Exists.intro; refine ⟨fun _ => ?_, hK _ ?_⟩; (exact Ext.call _ (owned_b c core _ o _ HV.out (by omega) (by omega) (by omega) (by omega) HOo.out)); clear hK K))
      refine Wq.nil ?_
      rintro _ ⟨u, rfl⟩
      have HU1 := Lib.hid (HB.out.trans (u.2.mono HB.out.size))
      have Y0 := fun x => Ext.cell (X0 u) x
      have Y1 := fun x => Ext.cell (X1 u) x
      have Y2 := fun x => Ext.cell (X2 u) x
      have Y3 := fun x => Ext.cell (X3 u) x
      have Y4 := fun x => Ext.cell (X4 u) x
      have Y5 := fun x => Ext.cell (X5 u) x
      have Y6 := fun x => Ext.cell (X6 u) x
      have Y7 := fun x => Ext.cell (X7 u) x
      have Y8 := fun x => Ext.cell (X8 u) x
      have Y9 := fun x => Ext.cell (X9 u) x
      have Y10 := fun x => Ext.cell (X10 u) x
      have Y11 := fun x => Ext.cell (X11 u) x
      have Y12 := fun x => Ext.cell (X12 u) x
      have Y13 := fun x => Ext.cell (X13 u) x
      have Y14 := fun x => Ext.cell (X14 u) x
      clear X0 X1 X2 X3 X4 X5 X6 X7 X8 X9 X10 X11 X12 X13 X14
      go_wp2_with fail
      refine wq_region (by kernel_rfl) (by kernel_rfl) ?_
      repeat (refine Wq.step (fun K hK => ?_); go_simp; first | (refine hK _ ?_; clear hK K) | (refine ⟨_, fun _ => rfl, hK _ ?_⟩; clear hK K) | (apply Exists.intro; refine ⟨fun _ => ?_, hK _ ?_⟩; (exact Ext.call _ (owned_b c core _ p _ HV.out (by omega) (by omega) (by omega) (by omega) HPp.out)); clear hK K))
      refine Wq.nil ?_
      rintro _ ⟨u2, rfl⟩
      go_wp2_with fail
      go_ret
      go_light
      rw [IntEnd, HO.out, strt0, HQ.out, HRr.out, HOo.out, HPp.out, if_neg (by omega)]
      exact ⟨rfl, HU1.out.trans (u2.2.mono HU1.out.size)⟩
end Go.Proofs.Ytjdkaagkaambkab
