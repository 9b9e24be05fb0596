/- The bus: owned, Owner, Start, Done, MaxWait, MaxTransfer, each by a contract. -/
import Derived.Test.YtjdkaagkaambkabA
namespace Go.Proofs.Ytjdkaagkaambkab
open Go.RowKit Go.Proofs

def ownd (c : Cfg) (core slot : Int) : Int := slot + (core - slot % c.n + c.n) % c.n

def IntEnd (w : World) (x : Int) (e : Ending) (w' : World) : Prop := e = .returned (.int .i64 x) ∧ Below w.heap.size w w'

theorem box_cells (w : World) (c : Cfg) : (w.alloc (.cells (cfgA c) 27)).cell? ⟨w.heap.size, 0, none⟩ = some (.int .i64 c.n) ∧ (w.alloc (.cells (cfgA c) 27)).cell? ⟨w.heap.size, 1, none⟩ = some (.int .i64 c.s) ∧ (w.alloc (.cells (cfgA c) 27)).cell? ⟨w.heap.size, 2, none⟩ = some (.int .i64 c.t) := by
  have h := heap_alloc_new w (.cells (cfgA c) 27)
  exact ⟨cell_of_row _ _ 0 _ _ _ h, cell_of_row _ _ 1 _ _ _ h, cell_of_row _ _ 2 _ _ _ h⟩

set_option maxHeartbeats 2000000 in
set_option maxRecDepth 1000000 in
theorem owned_any (c : Cfg) (core slot : Int) (w : World) (hv : vld c = true) (h0 : 0 ≤ core) (h1 : core < c.n) (h2 : 0 ≤ slot) (h3 : slot ≤ 2000000000000) :
    Calls Try.prog 25 #[cfgV c, .int .i64 core, .int .i64 slot] w (IntEnd w (ownd c core slot)) := by
  obtain ⟨n1, n4, t1, ts, s6⟩ := vld_n hv
  have hm1 : 0 ≤ slot % c.n := Int.emod_nonneg _ (by omega)
  have hm2 : slot % c.n < c.n := Int.emod_lt_of_pos _ (by omega)
  have hm3 : 0 ≤ (core - slot % c.n + c.n) % c.n := Int.emod_nonneg _ (by omega)
  have hm4 : (core - slot % c.n + c.n) % c.n < c.n := Int.emod_lt_of_pos _ (by omega)
  obtain ⟨x0, _, _⟩ := box_cells w c
  have hbw : Below w.heap.size w (w.alloc (.cells (cfgA c) 27)) := (Below.refl _ _).alloc (Nat.le_refl _) _
  have HB := Lib.hid hbw
  have hn0 : ¬ c.n = 0 := by omega
  have e1 : slot.tmod c.n = slot % c.n := Int.tmod_eq_emod_of_nonneg h2
  have e4 : (core - slot % c.n + c.n).tmod c.n = (core - slot % c.n + c.n) % c.n := Int.tmod_eq_emod_of_nonneg (by omega)
  have HO : Hid (ownd c core slot = slot + (core - slot % c.n + c.n) % c.n) := Lib.hid rfl
  generalize slot % c.n = a at *
  generalize (core - a + c.n) % c.n = b at *
  have e2 : IntKind.i64.wrap (core - a) = core - a := IntWalk.i64_in _ (by omega)
  have e3 : IntKind.i64.wrap (core - a + c.n) = core - a + c.n := IntWalk.i64_in _ (by omega)
  have e5 : IntKind.i64.wrap (slot + b) = slot + b := IntWalk.i64_in _ (by omega)
  clear hbw hv
  go_enter Try.func25, Try.ntmps25
  go_upto_region 1 with fail
  generalize hW : w.alloc _ = W at x0 HB ⊢
  have X0 := Ext.cell x0
  have HW := Lib.hid hW
  clear x0 hW
  refine wq_region (by kernel_rfl) (by kernel_rfl) ?_
  repeat (refine Wq.step (fun K hK => ?_); go_simp; first | (refine hK _ ?_; clear hK K) | (refine ⟨_, fun _ => rfl, hK _ ?_⟩; clear hK K))
  refine Wq.nil ?_
  rintro _ ⟨u, rfl⟩
  go_wp2_with fail
  go_ret
  go_light
  rw [IntEnd, HO.out]
  exact ⟨rfl, HB.out.trans (u.2.mono HB.out.size)⟩

theorem use_true {c : Cfg} {core : Int} {l : List Int} (h : use c core l = true) : vld c = true ∧ 0 ≤ core ∧ core < c.n ∧ ∀ x ∈ l, 0 ≤ x ∧ x ≤ 1099511627776 := by
  simp only [use, Bool.and_eq_true, decide_eq_true_eq, List.all_eq_true] at h
  exact ⟨h.1.1, h.1.2.1, h.1.2.2, fun x hx => by have := h.2 x hx; simpa [okc] using this⟩

/-- The box behind a call. -/
theorem box_later {w w1 : World} {c : Cfg} {o : Obj} (hb : Below ((w.alloc (.cells (cfgA c) 27)).alloc o).heap.size ((w.alloc (.cells (cfgA c) 27)).alloc o) w1) :
    w1.cell? ⟨w.heap.size, 0, none⟩ = some (.int .i64 c.n) ∧ w1.cell? ⟨w.heap.size, 1, none⟩ = some (.int .i64 c.s) ∧ w1.cell? ⟨w.heap.size, 2, none⟩ = some (.int .i64 c.t) ∧
    w1.heap[w.heap.size]? = some (.cells (cfgA c) 27 (0, 0)) ∧ Below w.heap.size w w1 := by
  have h : w1.heap[w.heap.size]? = some (.cells (cfgA c) 27 (0, 0)) := by
    rw [hb.block _ (by simp; omega), Below.heap_alloc _ _ _ (by simp)]
    exact heap_alloc_new w _
  exact ⟨cell_of_row _ _ 0 _ _ _ h, cell_of_row _ _ 1 _ _ _ h, cell_of_row _ _ 2 _ _ _ h, h, (((Below.refl _ _).alloc (Nat.le_refl _) _).alloc (by simp) _).trans (hb.mono (by simp; omega))⟩

theorem ints_one2 (w : World) (c : Cfg) (x : Int) : Ints ((w.alloc (.cells (cfgA c) 27)).alloc (.cells #[.int .i64 x] 3)) (.slice (some ⟨w.heap.size + 1, 0, none⟩) 1 1) [x] := by
  have := ints_one (w.alloc (.cells (cfgA c) 27)) x
  have e : (w.alloc (.cells (cfgA c) 27)).heap.size = w.heap.size + 1 := by simp
  rwa [e] at this

def ownr (c : Cfg) (cyc : Int) : Int := if use c 0 [cyc] = true then cyc / c.s % c.n else -1

theorem div_ok {a s : Int} (h0 : 0 ≤ a) (h1 : a ≤ 2000000000000) (hs : 1 ≤ s) : a.tdiv s = a / s ∧ 0 ≤ a / s ∧ a / s ≤ a ∧ IntKind.i64.wrap (a / s) = a / s := by
  have h2 : 0 ≤ a / s := Int.ediv_nonneg h0 (by omega)
  have h3 : a / s ≤ a := Int.ediv_le_self _ h0
  exact ⟨Int.tdiv_eq_ediv_of_nonneg h0, h2, h3, IntWalk.i64_in _ (by omega)⟩

set_option maxHeartbeats 2000000 in
set_option maxRecDepth 1000000 in
theorem owner_any (c : Cfg) (cyc : Int) (w : World) : Calls Try.prog 22 #[cfgV c, .int .i64 cyc] w (IntEnd w (ownr c cyc)) := by
  obtain ⟨b, hu⟩ : ∃ b, use c 0 [cyc] = b := ⟨_, rfl⟩
  have HU := Lib.hid hu
  clear hu
  go_enter Try.func22, Try.ntmps22
  go_wp2_with fail
  refine (usable_any c 0 _ 1 1 [cyc] _ (ints_one2 w c cyc) rfl (by omega)).mono ?_
  rintro e w1 ⟨rfl, hb1⟩
  rw [HU.out]
  obtain ⟨x0, x1, x2, hbx, hbw⟩ := box_later (w := w) (c := c) hb1
  have HB := Lib.hid hbw
  clear hb1 hbw hbx
  cases b with
  | false =>
    go_wp2_with fail
    go_ret
    go_light
    have : ownr c cyc = -1 := by rw [ownr, if_neg (by rw [HU.out]; simp)]
    rw [IntEnd, this]
    exact ⟨rfl, HB.out⟩
  | true =>
    obtain ⟨hv, _, _, hc⟩ := use_true HU.out
    obtain ⟨n1, n4, t1, ts, s6⟩ := vld_n hv
    obtain ⟨c0, c1⟩ := hc cyc (by simp)
    obtain ⟨d1, d2, d3, d4⟩ := div_ok (a := cyc) (s := c.s) c0 (by omega) (by omega)
    have HO : Hid (ownr c cyc = cyc / c.s % c.n) := Lib.hid (by rw [ownr, if_pos HU.out])
    have e1 : (cyc / c.s).tmod c.n = cyc / c.s % c.n := Int.tmod_eq_emod_of_nonneg d2
    generalize cyc / c.s = q at *
    generalize q % c.n = m at *
    have hn0 : ¬ c.n = 0 := by omega
    have hs0 : ¬ c.s = 0 := by omega
    have X0 := Ext.cell x0
    have X1 := Ext.cell x1
    clear x0 x1 x2 hv hc
    go_wp2_with fail
    refine wq_region (by kernel_rfl) (by kernel_rfl) ?_
    repeat (refine Wq.step (fun K hK => ?_); go_simp; first | (refine hK _ ?_; clear hK K) | (refine ⟨_, fun _ => rfl, hK _ ?_⟩; clear hK K))
    refine Wq.nil ?_
    rintro _ ⟨u, rfl⟩
    go_wp2_with fail
    go_ret
    go_light
    rw [IntEnd, HO.out]
    exact ⟨rfl, HB.out.trans (u.2.mono HB.out.size)⟩
end Go.Proofs.Ytjdkaagkaambkab
