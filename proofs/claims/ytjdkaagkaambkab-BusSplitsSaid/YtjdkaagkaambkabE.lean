/- The bus: Bandwidth's closure, Bandwidth. -/
import Derived.Test.YtjdkaagkaambkabD
import Derived.Laws.EntriesVeiled
import Derived.Lib.MinMax
namespace Go.Proofs.Ytjdkaagkaambkab
open Go.RowKit Go.Proofs

/-- The transfers in the part of a slot that lies in the window. -/
def part (c : Cfg) (fr to_ slot : Int) : Int := max (min to_ ((slot + 1) * c.s) - max fr (slot * c.s)) 0 / c.t

set_option maxHeartbeats 2000000 in
set_option maxRecDepth 1000000 in
theorem part_any (c : Cfg) (fr to_ slot : Int) (p q r : Nat) (w : World) (hv : vld c = true) (hp : w.cell? ⟨p, 0, none⟩ = some (.int .i64 fr)) (hq : w.heap[q]? = some (.cells (cfgA c) 27 (0, 0)))
    (hr : w.cell? ⟨r, 0, none⟩ = some (.int .i64 to_)) (f0 : 0 ≤ fr) (f1 : fr ≤ 1099511627776) (t0 : 0 ≤ to_) (t1 : to_ ≤ 1099511627776) (s0 : 0 ≤ slot * c.s) (s1 : slot * c.s ≤ 2000000000000) (l0 : 0 ≤ slot) (l1 : slot ≤ 2000000000000) :
    Calls Try.prog 26 #[.int .i64 slot, .pointer (some ⟨p, 0, none⟩), .pointer (some ⟨q, 0, none⟩), .pointer (some ⟨r, 0, none⟩)] w (IntEnd w (part c fr to_ slot)) := by
  obtain ⟨n1, n4, ct, ts, s6⟩ := vld_n hv
  have X1 : ∀ u : Ext w, u.1.cell? ⟨q, 1, none⟩ = some (.int .i64 c.s) := Ext.cell (cell_of_row _ _ 1 _ _ _ hq)
  have x2 : w.cell? ⟨q, 2, none⟩ = some (.int .i64 c.t) := cell_of_row _ _ 2 _ _ _ hq
  have X2 := Ext.cell x2
  have XP := Ext.cell hp
  have XR := Ext.cell hr
  have hm : (slot + 1) * c.s = slot * c.s + c.s := by rw [Int.add_mul]; omega
  obtain ⟨a, ha⟩ : ∃ a, slot * c.s = a := ⟨_, rfl⟩
  rw [ha] at hm s0 s1
  obtain ⟨lo, hlo⟩ : ∃ lo, max fr a = lo := ⟨_, rfl⟩
  obtain ⟨hi, hhi⟩ : ∃ hi, min to_ (a + c.s) = hi := ⟨_, rfl⟩
  obtain ⟨d, hd⟩ : ∃ d, max (hi - lo) 0 = d := ⟨_, rfl⟩
  have HP : Hid (part c fr to_ slot = d / c.t) := Lib.hid (by rw [part, hm, ha, hlo, hhi, hd])
  have hlo2 : 0 ≤ lo ∧ lo ≤ 2000000000000 := by omega
  have hhi2 : 0 ≤ hi ∧ hi ≤ 1099511627776 := by omega
  have hd2 : 0 ≤ d ∧ d ≤ 1099511627776 := by omega
  have w1 : IntKind.i64.wrap a = a := IntWalk.i64_in _ (by omega)
  have w2 : IntKind.i64.wrap (slot + 1) = slot + 1 := IntWalk.i64_in _ (by omega)
  have w3 : IntKind.i64.wrap (a + c.s) = a + c.s := IntWalk.i64_in _ (by omega)
  have w4 : IntKind.i64.wrap (hi - lo) = hi - lo := IntWalk.i64_in _ (by omega)
  have ct0 : ¬ c.t = 0 := by omega
  obtain ⟨q1, q2, q3, q4⟩ := div_ok (a := d) (s := c.t) hd2.1 (by omega) (by omega)
  clear hv hp hq hr x2
  go_enter Try.func26, Try.ntmps26
  go_wp2_with fail
  refine wq_region (by kernel_rfl) (by kernel_rfl) ?_
  repeat (refine Wq.step (fun K hK => ?_); go_simp; first | (refine hK _ ?_; clear hK K) | (refine ⟨_, fun _ => rfl, hK _ ?_⟩; clear hK K))
  refine Wq.nil ?_
  rintro _ ⟨u, rfl⟩
  have Y2 := X2 u
  go_wp2_with fail
  go_ret
  go_light
  rw [IntEnd, HP.out]
  exact ⟨rfl, u.2⟩
end Go.Proofs.Ytjdkaagkaambkab
