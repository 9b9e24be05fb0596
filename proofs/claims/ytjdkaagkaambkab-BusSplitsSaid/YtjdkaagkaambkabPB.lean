/- The plain law behind BusMonotone. -/
import Derived.Test.YtjdkaagkaambkabP
namespace Go.Proofs.Ytjdkaagkaambkab

/-- A transfer can start at x: the core owns its slot, and it fits. -/
def canGo (c : Cfg) (core x : Int) : Prop := x / c.s % c.n = core ∧ x % c.s + c.t ≤ c.s

theorem ownd_self (c : Cfg) (core slot : Int) (hn : 1 ≤ c.n) (h0 : 0 ≤ core) (h1 : core < c.n) : ownd c core slot = slot ↔ slot % c.n = core := by
  constructor
  · intro h
    have := ownd_mod c core slot hn h0 h1
    rwa [h] at this
  · intro h
    have a := ownd_least c core slot slot hn h0 h1 (by omega) h
    have b := ownd_bounds c core slot hn
    omega

theorem strt0_can (c : Cfg) (core x : Int) (hv : vld c = true) (h0 : 0 ≤ core) (h1 : core < c.n) : canGo c core (strt0 c core x) := by
  obtain ⟨n1, n4, t1, ts, s6⟩ := vld_n hv
  unfold strt0
  split
  · next h => exact ⟨(ownd_self c core _ n1 h0 h1).1 h.1, h.2⟩
  · refine ⟨?_, ?_⟩
    · rw [Int.mul_ediv_cancel _ (by omega)]
      exact ownd_mod c core _ n1 h0 h1
    · rw [Int.mul_emod_left]; omega

theorem strt0_least (c : Cfg) (core x y : Int) (hv : vld c = true) (h0 : 0 ≤ core) (h1 : core < c.n) (hxy : x ≤ y) (hy : canGo c core y) : strt0 c core x ≤ y := by
  obtain ⟨n1, n4, t1, ts, s6⟩ := vld_n hv
  unfold strt0
  split
  · exact hxy
  · next h =>
    have hq : x / c.s ≤ y / c.s := Int.ediv_le_ediv (by omega) hxy
    have hy2 : y / c.s * c.s ≤ y := Int.ediv_mul_le _ (by omega)
    by_cases he : x / c.s = y / c.s
    · exfalso
      have hx2 : x % c.s ≤ y % c.s := by
        have a := Int.mul_ediv_add_emod x c.s
        have b := Int.mul_ediv_add_emod y c.s
        rw [he] at a
        omega
      exact h ⟨(ownd_self c core _ n1 h0 h1).2 (by rw [he]; exact hy.1), by have := hy.2; omega⟩
    · have hl := ownd_least c core (x / c.s + 1) (y / c.s) n1 h0 h1 (by omega) hy.1
      have := Int.mul_le_mul_of_nonneg_right (c := c.s) hl (by omega)
      omega
end Go.Proofs.Ytjdkaagkaambkab
