/- The plain law behind BusMonotone. -/
import Derived.Test.YtjdkaagkaambkabD
namespace Go.Proofs.Ytjdkaagkaambkab

/-- The first slot of a core that is not before a slot grows with the slot. -/
theorem ownd_mod (c : Cfg) (core slot : Int) (hn : 1 ≤ c.n) (h0 : 0 ≤ core) (h1 : core < c.n) : ownd c core slot % c.n = core := by
  unfold ownd
  have a := Int.emod_nonneg slot (show c.n ≠ 0 by omega)
  have b := Int.emod_lt_of_pos slot (show 0 < c.n by omega)
  rw [Int.add_emod, Int.emod_emod, ← Int.add_emod]
  have e : slot + (core - slot % c.n + c.n) = core + c.n * (slot / c.n + 1) := by
    have := Int.mul_ediv_add_emod slot c.n
    rw [Int.mul_add, Int.mul_one]
    omega
  rw [e, Int.add_mul_emod_self_left]
  exact Int.emod_eq_of_lt h0 h1

theorem ownd_least (c : Cfg) (core slot x : Int) (hn : 1 ≤ c.n) (h0 : 0 ≤ core) (h1 : core < c.n) (hx : slot ≤ x) (hm : x % c.n = core) : ownd c core slot ≤ x := by
  have hb := ownd_bounds c core slot hn
  have e := ownd_mod c core slot hn h0 h1
  by_cases h : ownd c core slot ≤ x
  · exact h
  · exfalso
    have h2 : (ownd c core slot - x) % c.n = 0 := by
      rw [Int.sub_emod, e, hm]; simp
    rw [Int.emod_eq_of_lt (by omega) (by omega)] at h2
    omega

theorem ownd_mono (c : Cfg) (core a b : Int) (hn : 1 ≤ c.n) (h0 : 0 ≤ core) (h1 : core < c.n) (h : a ≤ b) : ownd c core a ≤ ownd c core b :=
  ownd_least c core a _ hn h0 h1 (by have := ownd_bounds c core b hn; omega) (ownd_mod c core b hn h0 h1)
end Go.Proofs.Ytjdkaagkaambkab
