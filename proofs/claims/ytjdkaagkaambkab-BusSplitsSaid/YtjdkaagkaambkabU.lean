/- The waiting times: none is longer than MaxWait, and in a whole period some request waits exactly so long. -/
import Derived.Test.YtjdkaagkaambkabS
namespace Go.Proofs.Ytjdkaagkaambkab
open Go.RowKit Go.Proofs

theorem ownd_shift (c : Cfg) (core q k : Int) : ownd c core (q + k * c.n) = ownd c core q + k * c.n := by
  unfold ownd
  rw [Int.add_mul_emod_self_right]
  omega

theorem strt0_shift (c : Cfg) (core x k : Int) (hv : vld c = true) : strt0 c core (x + k * (c.n * c.s)) = strt0 c core x + k * (c.n * c.s) := by
  obtain ⟨n1, n4, t1, ts, s6⟩ := vld_n hv
  unfold strt0
  rw [← Int.mul_assoc, Int.add_mul_ediv_right _ _ (by omega), Int.add_mul_emod_self_right, ownd_shift, (by omega : x / c.s + k * c.n + 1 = (x / c.s + 1) + k * c.n), ownd_shift]
  by_cases h : ownd c core (x / c.s) = x / c.s ∧ x % c.s + c.t ≤ c.s
  · rw [if_pos h, if_pos ⟨by omega, h.2⟩]
  · rw [if_neg h, if_neg (by omega), Int.add_mul]

theorem ownd_after (c : Cfg) (core q : Int) (n1 : 1 ≤ c.n) (n4 : c.n ≤ 4) (h0 : 0 ≤ core) (h1 : core < c.n) :
    (ownd c core q = q → ownd c core (q + 1) = q + c.n) ∧ (ownd c core q ≠ q → ownd c core (q + 1) ≤ q + c.n - 1) := by
  unfold ownd
  rcases (by omega : c.n = 1 ∨ c.n = 2 ∨ c.n = 3 ∨ c.n = 4) with e | e | e | e <;> rw [e] <;> rw [e] at h1 <;> omega

theorem wait_le (c : Cfg) (core y : Int) (hv : vld c = true) (h0 : 0 ≤ core) (h1 : core < c.n) : strt0 c core y ≤ y + ((c.n - 1) * c.s + c.t - 1) := by
  obtain ⟨n1, n4, t1, ts, s6⟩ := vld_n hv
  have e := Int.emod_add_mul_ediv y c.s
  have r0 := Int.emod_nonneg y (show c.s ≠ 0 by omega)
  have ns0 : 0 ≤ (c.n - 1) * c.s := Int.mul_nonneg (by omega) (by omega)
  have oa := ownd_after c core (y / c.s) n1 n4 h0 h1
  have hc : c.s * (y / c.s) = y / c.s * c.s := Int.mul_comm _ _
  unfold strt0
  split
  · omega
  · rename_i h
    by_cases ho : ownd c core (y / c.s) = y / c.s
    · rw [oa.1 ho, Int.add_mul]
      have : c.n * c.s = (c.n - 1) * c.s + c.s := by rw [Int.sub_mul]; omega
      omega
    · have l := Int.mul_le_mul_of_nonneg_right (oa.2 ho) (show 0 ≤ c.s by omega)
      have : (y / c.s + c.n - 1) * c.s = y / c.s * c.s + (c.n - 1) * c.s := by rw [← Int.add_mul]; congr 1; omega
      omega

theorem wait_top0 (c : Cfg) (core : Int) (hv : vld c = true) (h0 : 0 ≤ core) (h1 : core < c.n) :
    strt0 c core (core * c.s + (c.s - c.t + 1)) = core * c.s + (c.s - c.t + 1) + ((c.n - 1) * c.s + c.t - 1) := by
  obtain ⟨n1, n4, t1, ts, s6⟩ := vld_n hv
  have hns : c.n * c.s = (c.n - 1) * c.s + c.s := by rw [Int.sub_mul]; omega
  have ow : ownd c core core = core := (ownd_self c core core n1 h0 h1).2 (Int.emod_eq_of_lt h0 h1)
  have oa := (ownd_after c core core n1 n4 h0 h1).1 ow
  by_cases ht : c.t = 1
  · have e : core * c.s + (c.s - c.t + 1) = (core + 1) * c.s := by rw [Int.add_mul]; omega
    rw [e]
    unfold strt0
    rw [Int.mul_ediv_cancel _ (by omega), Int.mul_emod_left]
    by_cases hn : c.n = 1
    · rw [if_pos ⟨by omega, by omega⟩, hn]; omega
    · have ob := ownd_after c core (core + 1) n1 n4 h0 h1
      have hb := ownd_bounds c core (core + 1) n1
      have e2 : ownd c core (core + 1 + 1) = core + c.n := by
        have m1 := ownd_mod c core (core + 1 + 1) n1 h0 h1
        have b2 := ownd_bounds c core (core + 1 + 1) n1
        have hle := ob.2 (by omega)
        have : ownd c core (core + 1) ≤ ownd c core (core + 1 + 1) := ownd_mono c core _ _ n1 h0 h1 (by omega)
        omega
      rw [if_neg (by omega), e2, Int.add_mul, Int.add_mul, ht]
      omega
  · have e1 : (core * c.s + (c.s - c.t + 1)) / c.s = core := by
      rw [Int.add_comm, Int.add_mul_ediv_right _ _ (by omega), Int.ediv_eq_zero_of_lt (by omega) (by omega)]; omega
    have e2 : (core * c.s + (c.s - c.t + 1)) % c.s = c.s - c.t + 1 := by
      rw [Int.add_comm, Int.add_mul_emod_self_right, Int.emod_eq_of_lt (by omega) (by omega)]
    unfold strt0
    rw [e1, e2, if_neg (by omega), oa, Int.add_mul]
    omega

theorem wait_top (c : Cfg) (core x : Int) (hv : vld c = true) (h0 : 0 ≤ core) (h1 : core < c.n) :
    ∃ j : Nat, (j : Int) < c.n * c.s ∧ strt0 c core (x + j) - (x + j) = (c.n - 1) * c.s + c.t - 1 := by
  obtain ⟨n1, n4, t1, ts, s6⟩ := vld_n hv
  have hp : 0 < c.n * c.s := Int.mul_pos (by omega) (by omega)
  have r0 := Int.emod_nonneg (core * c.s + (c.s - c.t + 1) - x) (show c.n * c.s ≠ 0 by omega)
  have r1 := Int.emod_lt_of_pos (core * c.s + (c.s - c.t + 1) - x) hp
  have e := Int.emod_add_mul_ediv (core * c.s + (c.s - c.t + 1) - x) (c.n * c.s)
  refine ⟨((core * c.s + (c.s - c.t + 1) - x) % (c.n * c.s)).toNat, by omega, ?_⟩
  rw [Int.toNat_of_nonneg r0]
  generalize (core * c.s + (c.s - c.t + 1) - x) / (c.n * c.s) = k at *
  have e3 : x + (core * c.s + (c.s - c.t + 1) - x) % (c.n * c.s) = core * c.s + (c.s - c.t + 1) + (-k) * (c.n * c.s) := by
    rw [Int.neg_mul, Int.mul_comm k]; omega
  rw [e3, strt0_shift c core _ _ hv, wait_top0 c core hv h0 h1]
  omega

/-- The worst waiting time of the first i cycles from x on. -/
def wst (c : Cfg) (core x : Int) : Nat → Int
  | 0 => 0
  | i + 1 => max (wst c core x i) (strt0 c core (x + i) - (x + i))

theorem wst_le (c : Cfg) (core x : Int) (hv : vld c = true) (h0 : 0 ≤ core) (h1 : core < c.n) (i : Nat) : 0 ≤ wst c core x i ∧ wst c core x i ≤ (c.n - 1) * c.s + c.t - 1 := by
  obtain ⟨n1, n4, t1, ts, s6⟩ := vld_n hv
  have ns0 : 0 ≤ (c.n - 1) * c.s := Int.mul_nonneg (by omega) (by omega)
  induction i with
  | zero => simp only [wst]; omega
  | succ i ih =>
    have := wait_le c core (x + i) hv h0 h1
    simp only [wst]
    omega
theorem wst_ge (c : Cfg) (core x : Int) (i j : Nat) (h : j < i) : strt0 c core (x + j) - (x + j) ≤ wst c core x i := by
  induction i with
  | zero => omega
  | succ i ih =>
    simp only [wst]
    by_cases hj : j = i
    · subst hj; omega
    · have := ih (by omega); omega
theorem wst_end (c : Cfg) (core x : Int) (hv : vld c = true) (h0 : 0 ≤ core) (h1 : core < c.n) (i : Nat) (hi : (i : Int) = c.n * c.s) : wst c core x i = (c.n - 1) * c.s + c.t - 1 := by
  obtain ⟨j, hj, e⟩ := wait_top c core x hv h0 h1
  have a := wst_ge c core x i j (by omega)
  have b := (wst_le c core x hv h0 h1 i).2
  omega
end Go.Proofs.Ytjdkaagkaambkab
