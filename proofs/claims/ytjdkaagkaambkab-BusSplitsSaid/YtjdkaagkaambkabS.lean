/- The bus contracts with the value named. -/
import Derived.Test.YtjdkaagkaambkabQ
namespace Go.Proofs.Ytjdkaagkaambkab
open Go.RowKit Go.Proofs
theorem start_v (c : Cfg) (core x z : Int) (w : World) (h : strt c core x = z) : Calls Try.prog 14 #[cfgV c, .int .i64 core, .int .i64 x] w fun e w' => e = .returned (.int .i64 z) ∧ Below w.heap.size w w' := by
  rw [← h]; exact start_any c core x w
theorem done_v (c : Cfg) (core x z : Int) (w : World) (h : don c core x = z) : Calls Try.prog 20 #[cfgV c, .int .i64 core, .int .i64 x] w fun e w' => e = .returned (.int .i64 z) ∧ Below w.heap.size w w' := by
  rw [← h]; exact done_any c core x w
theorem owner_v (c : Cfg) (x z : Int) (w : World) (h : ownr c x = z) : Calls Try.prog 22 #[cfgV c, .int .i64 x] w fun e w' => e = .returned (.int .i64 z) ∧ Below w.heap.size w w' := by
  rw [← h]; exact owner_any c x w
theorem bnd_v (c : Cfg) (core x y z : Int) (w : World) (h : bnd c core x y = z) : Calls Try.prog 16 #[cfgV c, .int .i64 core, .int .i64 x, .int .i64 y] w fun e w' => e = .returned (.int .i64 z) ∧ Below w.heap.size w w' := by
  rw [← h]; exact bnd_any c core x y w
theorem mtr_v (c : Cfg) (z : Int) (w : World) (h : mtr c = z) : Calls Try.prog 18 #[cfgV c] w fun e w' => e = .returned (.int .i64 z) ∧ Below w.heap.size w w' := by
  rw [← h]; exact maxtransfer_any c w
theorem cyc_v (n : Int) (w : World) (h0 : 0 ≤ n) (h1 : n ≤ 4294967295) : Calls Try.prog 13 #[.int .u32 n] w fun e w' => e = .returned (.int .i64 n) ∧ Below w.heap.size w w' := cycle_any n h0 (by omega) w

def TrueEnd (w : World) (e : Ending) (w' : World) : Prop := e = .returned (.bool true) ∧ Below w.heap.size w w'

theorem use_ok {c : Cfg} {core x : Int} (hv : vld c = true) (h0 : 0 ≤ core) (h1 : core < c.n) (x0 : 0 ≤ x) (x1 : x ≤ 1099511627776) : use c core [x] = true := by
  simp [use, hv, okc, h0, h1, x0, x1]
theorem use_ok2 {c : Cfg} {core x y : Int} (hv : vld c = true) (h0 : 0 ≤ core) (h1 : core < c.n) (x0 : 0 ≤ x) (x1 : x ≤ 1099511627776) (y0 : 0 ≤ y) (y1 : y ≤ 1099511627776) : use c core [x, y] = true := by
  simp [use, hv, okc, h0, h1, x0, x1, y0, y1]

/-- The cycles from the start of a transfer to its end lie in one slot, which the core owns. -/
theorem in_slot {c : Cfg} {core x z : Int} (hv : vld c = true) (h : canGo c core x) (h1 : x ≤ z) (h2 : z < x + c.t) : z / c.s = x / c.s := by
  obtain ⟨n1, n4, t1, ts, s6⟩ := vld_n hv
  have e := Int.emod_add_mul_ediv x c.s
  have r0 := Int.emod_nonneg x (show c.s ≠ 0 by omega)
  have h3 := h.2
  have e2 : z = (x % c.s + (z - x)) + c.s * (x / c.s) := by omega
  rw [e2, Int.add_mul_ediv_left _ _ (by omega), Int.ediv_eq_zero_of_lt (by omega) (by omega)]
  omega

theorem own_slot {c : Cfg} {core x z : Int} (hv : vld c = true) (h : canGo c core x) (h1 : x ≤ z) (h2 : z < x + c.t) (x0 : 0 ≤ x) (z1 : z ≤ 1099511627776) : ownr c z = core := by
  obtain ⟨n1, n4, t1, ts, s6⟩ := vld_n hv
  rw [ownr, if_pos (use_ok hv (by omega) (by omega) (by omega) z1), in_slot hv h h1 h2]
  exact h.1

theorem apart {c : Cfg} {a b x y : Int} (hv : vld c = true) (h : canGo c a x) (h' : canGo c b y) (hab : a ≠ b) : x + c.t ≤ y ∨ y + c.t ≤ x := by
  obtain ⟨n1, n4, t1, ts, s6⟩ := vld_n hv
  have e := Int.emod_add_mul_ediv x c.s
  have e' := Int.emod_add_mul_ediv y c.s
  have r0 := Int.emod_nonneg x (show c.s ≠ 0 by omega)
  have r0' := Int.emod_nonneg y (show c.s ≠ 0 by omega)
  have k := h.2
  have k' := h'.2
  have m := h.1
  have m' := h'.1
  by_cases q : x / c.s = y / c.s
  · exfalso; rw [q] at m; omega
  · by_cases ql : x / c.s < y / c.s
    · left
      have l := Int.mul_le_mul_of_nonneg_left (show x / c.s + 1 ≤ y / c.s by omega) (show 0 ≤ c.s by omega)
      rw [Int.mul_add, Int.mul_one] at l
      omega
    · right
      have l := Int.mul_le_mul_of_nonneg_left (show y / c.s + 1 ≤ x / c.s by omega) (show 0 ≤ c.s by omega)
      rw [Int.mul_add, Int.mul_one] at l
      omega
end Go.Proofs.Ytjdkaagkaambkab
