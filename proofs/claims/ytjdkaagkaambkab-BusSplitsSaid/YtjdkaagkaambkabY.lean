/- Bandwidth is the sum over the slots of a core: the plain laws of windows. -/
import Derived.Test.YtjdkaagkaambkabU
namespace Go.Proofs.Ytjdkaagkaambkab
open Go.RowKit Go.Proofs

def sg (c : Cfg) (core : Int) (i : Nat) : Int := core + (i : Int) * c.n
def Sm (c : Cfg) (core fr to_ : Int) : Nat → Int
  | 0 => 0
  | i + 1 => Sm c core fr to_ i + part c fr to_ (sg c core i)

theorem sg_succ (c : Cfg) (core : Int) (i : Nat) : sg c core (i + 1) = sg c core i + c.n := by
  unfold sg; rw [Int.natCast_add, Int.add_mul]; omega
theorem sg_lt (c : Cfg) (core : Int) (hn : 1 ≤ c.n) (i j : Nat) (h : i < j) : sg c core i + c.n ≤ sg c core j := by
  unfold sg
  have := Int.mul_le_mul_of_nonneg_right (show (i : Int) + 1 ≤ j by omega) (show 0 ≤ c.n by omega)
  rw [Int.add_mul] at this
  omega
theorem sg_le (c : Cfg) (core : Int) (hn : 1 ≤ c.n) (i j : Nat) (h : i ≤ j) : sg c core i ≤ sg c core j := by
  by_cases e : i = j
  · subst e; omega
  · have := sg_lt c core hn i j (by omega); omega
theorem sg_ge (c : Cfg) (core : Int) (hn : 1 ≤ c.n) (h0 : 0 ≤ core) (i : Nat) : (i : Int) ≤ sg c core i := by
  unfold sg
  have := Int.mul_le_mul_of_nonneg_left hn (show 0 ≤ (i : Int) by omega)
  omega
theorem sg_mod (c : Cfg) (core : Int) (i : Nat) (h0 : 0 ≤ core) (h1 : core < c.n) : sg c core i % c.n = core := by
  unfold sg
  rw [Int.add_mul_emod_self_right, Int.emod_eq_of_lt h0 h1]
theorem sg_of (c : Cfg) (core σ : Int) (hn : 1 ≤ c.n) (hs : 0 ≤ σ) (hm : σ % c.n = core) : sg c core (σ / c.n).toNat = σ := by
  unfold sg
  rw [Int.toNat_of_nonneg (Int.ediv_nonneg hs (by omega))]
  have := Int.emod_add_mul_ediv σ c.n
  rw [Int.mul_comm (σ / c.n)]
  omega

theorem part_at (c : Cfg) (fr to_ σ : Int) : part c fr to_ σ = max (min to_ (σ * c.s + c.s) - max fr (σ * c.s)) 0 / c.t := by
  unfold part; rw [Int.add_mul, Int.one_mul]
theorem part_left {c : Cfg} {fr to_ σ : Int} (h : σ * c.s + c.s ≤ fr) : part c fr to_ σ = 0 := by
  rw [part_at, (by omega : max (min to_ (σ * c.s + c.s) - max fr (σ * c.s)) 0 = 0), Int.zero_ediv]
theorem part_right {c : Cfg} {fr to_ σ : Int} (h : to_ ≤ σ * c.s) : part c fr to_ σ = 0 := by
  rw [part_at, (by omega : max (min to_ (σ * c.s + c.s) - max fr (σ * c.s)) 0 = 0), Int.zero_ediv]
theorem part_none {c : Cfg} {fr to_ σ : Int} (h : to_ ≤ fr) : part c fr to_ σ = 0 := by
  rw [part_at, (by omega : max (min to_ (σ * c.s + c.s) - max fr (σ * c.s)) 0 = 0), Int.zero_ediv]
theorem part_full {c : Cfg} {fr to_ σ : Int} (hs : 1 ≤ c.s) (h : fr ≤ σ * c.s) (h2 : σ * c.s + c.s ≤ to_) : part c fr to_ σ = c.s / c.t := by
  rw [part_at, (by omega : max (min to_ (σ * c.s + c.s) - max fr (σ * c.s)) 0 = c.s)]

theorem Sm_from (c : Cfg) (core fr to_ : Int) (a b : Nat) (hab : a ≤ b) (h : ∀ i, a ≤ i → i < b → part c fr to_ (sg c core i) = 0) : Sm c core fr to_ b = Sm c core fr to_ a := by
  induction b with
  | zero => obtain rfl : a = 0 := by omega
            rfl
  | succ b ih =>
    by_cases e : a = b + 1
    · subst e; rfl
    · rw [Sm, ih (by omega) (fun i h1 h2 => h i h1 (by omega)), h b (by omega) (by omega)]; omega

theorem bnd_sum (c : Cfg) (core fr to_ : Int) (K : Nat) (hv : vld c = true) (h0 : 0 ≤ core) (h1 : core < c.n) (f0 : 0 ≤ fr) (hft : fr ≤ to_) (ht : to_ ≤ 1099511627776) (hK : to_ ≤ (K : Int) * c.s) : bnd c core fr to_ = Sm c core fr to_ K := by
  obtain ⟨n1, n4, t1, ts, s6⟩ := vld_n hv
  rw [bnd, if_pos (use_ok2 hv h0 h1 f0 (by omega) (by omega) ht)]
  by_cases hle : to_ ≤ fr
  · rw [if_pos hle, Sm_from c core fr to_ 0 K (by omega) (fun i _ _ => part_none hle)]; rfl
  · rw [if_neg hle]
    have b1 := ownd_bounds c core (fr / c.s) n1
    have fm := ownd_mod c core (fr / c.s) n1 h0 h1
    have fl : ∀ x, fr / c.s ≤ x → x % c.n = core → ownd c core (fr / c.s) ≤ x := fun x a b => ownd_least c core _ x n1 h0 h1 a b
    have q0 : 0 ≤ fr / c.s := Int.ediv_nonneg f0 (by omega)
    have e1 := Int.emod_add_mul_ediv fr c.s
    have r0 := Int.emod_nonneg fr (show c.s ≠ 0 by omega)
    have r1 := Int.emod_lt_of_pos fr (show 0 < c.s by omega)
    have e2 := Int.emod_add_mul_ediv (to_ - 1) c.s
    have r2 := Int.emod_nonneg (to_ - 1) (show c.s ≠ 0 by omega)
    have r3 := Int.emod_lt_of_pos (to_ - 1) (show 0 < c.s by omega)
    have lK : (to_ - 1) / c.s < K := Int.ediv_lt_of_lt_mul (by omega) (by omega)
    rw [Int.mul_comm] at e1 e2
    generalize ownd c core (fr / c.s) = f at *
    generalize fr / c.s = q at *
    generalize (to_ - 1) / c.s = l at *
    have hsi := sg_of c core f n1 (by omega) fm
    generalize (f / c.n).toNat = i0 at *
    have mul_s : ∀ a b : Int, a ≤ b → a * c.s ≤ b * c.s := fun a b h => Int.mul_le_mul_of_nonneg_right h (by omega)
    have zl : ∀ i, i < i0 → part c fr to_ (sg c core i) = 0 := fun i hi => by
      refine part_left ?_
      have hlt := sg_lt c core n1 i i0 hi
      have hq : sg c core i + 1 ≤ q := by
        by_cases h : q ≤ sg c core i
        · have := fl _ h (sg_mod c core i h0 h1); omega
        · omega
      have := mul_s _ _ hq
      rw [Int.add_mul] at this
      omega
    have zr : ∀ i, l + 1 ≤ sg c core i → part c fr to_ (sg c core i) = 0 := fun i hi => by
      refine part_right ?_
      have := mul_s _ _ hi
      rw [Int.add_mul] at this
      omega
    have z0 : Sm c core fr to_ i0 = 0 := by rw [Sm_from c core fr to_ 0 i0 (by omega) (fun i _ h => zl i h)]; rfl
    unfold bnd1
    by_cases hlf : l < f
    · rw [if_pos hlf]
      by_cases hik : i0 ≤ K
      · rw [Sm_from c core fr to_ i0 K hik (fun i a _ => zr i (by have := sg_le c core n1 i0 i a; omega)), z0]
      · rw [Sm_from c core fr to_ 0 K (by omega) (fun i _ b => zl i (by omega))]; rfl
    · rw [if_neg hlf]
      have m0 : 0 ≤ (l - f) / c.n := Int.ediv_nonneg (by omega) (by omega)
      have m1 : (l - f) / c.n * c.n ≤ l - f := Int.ediv_mul_le _ (by omega)
      have m2 : l - f < ((l - f) / c.n + 1) * c.n := Int.lt_ediv_add_one_mul_self _ (by omega)
      obtain ⟨m, hm⟩ : ∃ m : Nat, (l - f) / c.n = m := ⟨((l - f) / c.n).toNat, (Int.toNat_of_nonneg m0).symm⟩
      rw [hm] at m0 m1 m2 ⊢
      have sgi : ∀ j : Nat, sg c core (i0 + j) = f + (j : Int) * c.n := fun j => by
        rw [← hsi]; unfold sg; rw [Int.natCast_add, Int.add_mul]; omega
      have hlast : sg c core (i0 + m) ≤ l := by rw [sgi]; omega
      have hmid : ∀ j, 1 ≤ j → j ≤ m → Sm c core fr to_ (i0 + j) = part c fr to_ f + ((j : Int) - 1) * (c.s / c.t) := by
        intro j
        induction j with
        | zero => intro h; omega
        | succ j ih =>
          intro _ hjm
          rw [← Nat.add_assoc, Sm]
          by_cases hj : j = 0
          · subst hj
            rw [Nat.add_zero, z0, hsi]; simp
          · rw [ih (by omega) (by omega)]
            have a1 : part c fr to_ (sg c core (i0 + j)) = c.s / c.t := by
              refine part_full (by omega) ?_ ?_
              · have := sg_lt c core n1 i0 (i0 + j) (by omega)
                have := mul_s (q + 1) (sg c core (i0 + j)) (by omega)
                rw [Int.add_mul] at this
                omega
              · have := sg_lt c core n1 (i0 + j) (i0 + m) (by omega)
                have := mul_s (sg c core (i0 + j) + 1) l (by omega)
                rw [Int.add_mul] at this
                omega
            rw [a1, Int.natCast_add, Int.add_assoc]
            congr 1
            have : ((j : Int) + (1 : Nat) - 1) * (c.s / c.t) = ((j : Int) - 1) * (c.s / c.t) + 1 * (c.s / c.t) := by rw [← Int.add_mul]; congr 1; omega
            rw [this, Int.one_mul]
      have hend : Sm c core fr to_ K = Sm c core fr to_ (i0 + m + 1) := by
        refine Sm_from c core fr to_ (i0 + m + 1) K ?_ (fun i a _ => zr i ?_)
        · have := sg_ge c core n1 h0 (i0 + m); omega
        · have := sg_le c core n1 (i0 + m + 1) i a
          have := sgi (m + 1)
          rw [Int.natCast_add, ← Nat.add_assoc] at this
          have e : ((m : Int) + (1 : Nat)) * c.n = ((m : Int) + 1) * c.n := rfl
          omega
      rw [hend, Sm]
      unfold bnd2
      by_cases hm0 : m = 0
      · subst hm0
        rw [Nat.add_zero, z0, hsi]
        simp
        rw [(by omega : max (-1 : Int) 0 = 0)]
        omega
      · rw [hmid m (by omega) (by omega), sgi m, if_neg (by omega), (by omega : max ((m : Int) + 1 - 2) 0 = (m : Int) - 1), (by omega : (m : Int) + 1 - 1 = m)]
        omega

theorem div_two {a b t : Int} (ht : 1 ≤ t) (_ha : 0 ≤ a) (_hb : 0 ≤ b) : a / t + b / t ≤ (a + b) / t ∧ (a + b) / t ≤ a / t + b / t + 1 := by
  have e1 := Int.emod_add_mul_ediv a t
  have e2 := Int.emod_add_mul_ediv b t
  have l1 := Int.emod_nonneg a (show t ≠ 0 by omega)
  have l2 := Int.emod_nonneg b (show t ≠ 0 by omega)
  have u1 := Int.emod_lt_of_pos a (show 0 < t by omega)
  have u2 := Int.emod_lt_of_pos b (show 0 < t by omega)
  rw [Int.mul_comm] at e1 e2
  constructor
  · refine Int.le_ediv_of_mul_le (by omega) ?_
    rw [Int.add_mul]; omega
  · have : (a + b) / t < a / t + b / t + 2 := Int.ediv_lt_of_lt_mul (by omega) (by rw [Int.add_mul, Int.add_mul]; omega)
    omega

theorem split_part {c : Cfg} {fr mid to_ σ : Int} (hv : vld c = true) (h1 : fr ≤ mid) (h2 : mid ≤ to_) :
    part c fr mid σ + part c mid to_ σ ≤ part c fr to_ σ ∧ part c fr to_ σ ≤ part c fr mid σ + part c mid to_ σ + 1 ∧ (σ * c.s + c.s ≤ mid ∨ mid ≤ σ * c.s → part c fr to_ σ = part c fr mid σ + part c mid to_ σ) := by
  obtain ⟨n1, n4, t1, ts, s6⟩ := vld_n hv
  rw [part_at, part_at, part_at]
  generalize σ * c.s = a
  obtain ⟨A, hA⟩ : ∃ A, max (min mid (a + c.s) - max fr a) 0 = A := ⟨_, rfl⟩
  obtain ⟨B, hB⟩ : ∃ B, max (min to_ (a + c.s) - max mid a) 0 = B := ⟨_, rfl⟩
  rw [hA, hB, (by omega : max (min to_ (a + c.s) - max fr a) 0 = A + B)]
  have d := div_two t1 (show 0 ≤ A by omega) (show 0 ≤ B by omega)
  refine ⟨d.1, d.2, fun h => ?_⟩
  rcases h with h | h
  · rw [(by omega : B = 0)]; simp
  · rw [(by omega : A = 0)]; simp

theorem Sm_split (c : Cfg) (core fr mid to_ : Int) (hv : vld c = true) (h1 : fr ≤ mid) (h2 : mid ≤ to_) (K : Nat) :
    Sm c core fr mid K + Sm c core mid to_ K ≤ Sm c core fr to_ K ∧ Sm c core fr to_ K ≤ Sm c core fr mid K + Sm c core mid to_ K + 1 ∧
    ((∀ i, i < K → sg c core i * c.s + c.s ≤ mid) → Sm c core fr to_ K = Sm c core fr mid K + Sm c core mid to_ K) := by
  obtain ⟨n1, n4, t1, ts, s6⟩ := vld_n hv
  induction K with
  | zero => simp [Sm]
  | succ K ih =>
    obtain ⟨i1, i2, i3⟩ := ih
    obtain ⟨p1, p2, p3⟩ := split_part (σ := sg c core K) hv h1 h2
    simp only [Sm]
    refine ⟨by omega, ?_, fun h => ?_⟩
    · by_cases hm : mid ≤ sg c core K * c.s
      · have := p3 (.inr hm); omega
      · have := i3 (fun i hi => by
          have h3 := sg_lt c core n1 i K hi
          have h4 := Int.mul_le_mul_of_nonneg_right (show sg c core i + 1 ≤ sg c core K by omega) (show 0 ≤ c.s by omega)
          rw [Int.add_mul] at h4
          omega)
        omega
    · have := i3 (fun i hi => h i (by omega))
      have := p3 (.inl (h K (by omega)))
      omega

theorem split_plain (c : Cfg) (core fr mid to_ : Int) (hv : vld c = true) (h0 : 0 ≤ core) (h1 : core < c.n) (f0 : 0 ≤ fr) (hm : fr ≤ mid) (hm2 : mid ≤ to_) (ht : to_ ≤ 1099511627776) :
    bnd c core fr mid + bnd c core mid to_ ≤ bnd c core fr to_ ∧ bnd c core fr to_ ≤ bnd c core fr mid + bnd c core mid to_ + 1 := by
  obtain ⟨n1, n4, t1, ts, s6⟩ := vld_n hv
  have hK : to_ ≤ (to_.toNat : Int) * c.s := by
    rw [Int.toNat_of_nonneg (by omega)]
    have := Int.mul_le_mul_of_nonneg_left (show 1 ≤ c.s by omega) (show 0 ≤ to_ by omega)
    omega
  rw [bnd_sum c core fr mid to_.toNat hv h0 h1 f0 hm (by omega) (by omega), bnd_sum c core mid to_ to_.toNat hv h0 h1 (by omega) hm2 ht hK, bnd_sum c core fr to_ to_.toNat hv h0 h1 f0 (by omega) ht hK]
  obtain ⟨a, b, _⟩ := Sm_split c core fr mid to_ hv hm hm2 to_.toNat
  exact ⟨a, b⟩

theorem whole_plain (c : Cfg) (core : Int) (m : Nat) (hv : vld c = true) (h0 : 0 ≤ core) (h1 : core < c.n) (ht : (m : Int) * (c.n * c.s) + c.n * c.s ≤ 1099511627776) :
    bnd c core ((m : Int) * (c.n * c.s)) ((m : Int) * (c.n * c.s) + c.n * c.s) = c.s / c.t := by
  obtain ⟨n1, n4, t1, ts, s6⟩ := vld_n hv
  have p0 : 0 < c.n * c.s := Int.mul_pos (by omega) (by omega)
  have f0 : 0 ≤ (m : Int) * (c.n * c.s) := Int.mul_nonneg (by omega) (by omega)
  obtain ⟨F, hF⟩ : ∃ F, (m : Int) * (c.n * c.s) = F := ⟨_, rfl⟩
  have hF2 : ((m : Int) * c.n) * c.s = F := by rw [← hF, Int.mul_assoc]
  rw [hF] at ht f0 ⊢
  obtain ⟨T, hT⟩ : ∃ T, F + c.n * c.s = T := ⟨_, rfl⟩
  have hT2 : ((m : Int) * c.n + c.n) * c.s = T := by rw [Int.add_mul, hF2, hT]
  rw [hT] at ht ⊢
  have hK : T ≤ (((m + 1) + T.toNat : Nat) : Int) * c.s := by
    have := Int.mul_le_mul_of_nonneg_left (show 1 ≤ c.s by omega) (show 0 ≤ (((m + 1) + T.toNat : Nat) : Int) by omega)
    omega
  have mul_s : ∀ a b : Int, a ≤ b → a * c.s ≤ b * c.s := fun a b h => Int.mul_le_mul_of_nonneg_right h (by omega)
  have sm : sg c core m = core + (m : Int) * c.n := rfl
  rw [bnd_sum c core F T ((m + 1) + T.toNat) hv h0 h1 f0 (by omega) ht hK]
  rw [Sm_from c core F T (m + 1) ((m + 1) + T.toNat) (by omega) (fun i a _ => by
    refine part_right ?_
    have := sg_lt c core n1 m i (by omega)
    have := mul_s ((m : Int) * c.n + c.n) (sg c core i) (by omega)
    omega)]
  rw [Sm, Sm_from c core F T 0 m (by omega) (fun i _ b => by
    refine part_left ?_
    have := sg_lt c core n1 i m b
    have := mul_s (sg c core i + 1) ((m : Int) * c.n) (by omega)
    rw [Int.add_mul] at this
    omega)]
  rw [part_full (by omega) (by
    have := mul_s ((m : Int) * c.n) (sg c core m) (by omega)
    omega) (by
    have := mul_s (sg c core m + 1) ((m : Int) * c.n + c.n) (by omega)
    rw [Int.add_mul] at this
    omega)]
  simp [Sm]

theorem fit_can {c : Cfg} {core σ y : Int} (hv : vld c = true) (hm : σ % c.n = core) (h1 : σ * c.s ≤ y) (h2 : y + c.t ≤ σ * c.s + c.s) : canGo c core y := by
  obtain ⟨n1, n4, t1, ts, s6⟩ := vld_n hv
  have e : y = (y - σ * c.s) + σ * c.s := by omega
  have e1 : y / c.s = σ := by rw [e, Int.add_mul_ediv_right _ _ (by omega), Int.ediv_eq_zero_of_lt (by omega) (by omega)]; omega
  have e2 : y % c.s = y - σ * c.s := by rw [e, Int.add_mul_emod_self_right, Int.emod_eq_of_lt (by omega) (by omega)]; omega
  exact ⟨by rw [e1, hm], by omega⟩

theorem Sm_nonneg (c : Cfg) (core fr to_ : Int) (hv : vld c = true) (K : Nat) : 0 ≤ Sm c core fr to_ K := by
  induction K with
  | zero => simp [Sm]
  | succ K ih => simp only [Sm]; have := (part_bounds c fr to_ (sg c core K) hv).1; omega

theorem bnd_none (c : Cfg) (core z to_ : Int) (hv : vld c = true) (h0 : 0 ≤ core) (h1 : core < c.n) (z0 : 0 ≤ z) (hz : z ≤ to_) (ht : to_ ≤ 1099511627776) (he : to_ < strt0 c core z + c.t) : bnd c core z to_ = 0 := by
  obtain ⟨n1, n4, t1, ts, s6⟩ := vld_n hv
  have hK : to_ ≤ (to_.toNat : Int) * c.s := by
    rw [Int.toNat_of_nonneg (by omega)]
    have := Int.mul_le_mul_of_nonneg_left (show 1 ≤ c.s by omega) (show 0 ≤ to_ by omega)
    omega
  rw [bnd_sum c core z to_ to_.toNat hv h0 h1 z0 hz ht hK, Sm_from c core z to_ 0 to_.toNat (by omega) (fun i _ _ => ?_)]
  · rfl
  · rw [part_at]
    refine Int.ediv_eq_zero_of_lt (by omega) ?_
    by_cases h : max (min to_ (sg c core i * c.s + c.s) - max z (sg c core i * c.s)) 0 < c.t
    · exact h
    · exfalso
      have hc := fit_can (y := max z (sg c core i * c.s)) hv (sg_mod c core i h0 h1) (by omega) (by omega)
      have := strt0_least c core z _ hv h0 h1 (show z ≤ max z (sg c core i * c.s) by omega) hc
      omega

theorem bnd_one (c : Cfg) (core z to_ : Int) (hv : vld c = true) (h0 : 0 ≤ core) (h1 : core < c.n) (z0 : 0 ≤ z) (hz : z ≤ to_) (ht : to_ ≤ 1099511627776) (he : strt0 c core z + c.t ≤ to_) : bnd c core z to_ = 1 + bnd c core (strt0 c core z + c.t) to_ := by
  obtain ⟨n1, n4, t1, ts, s6⟩ := vld_n hv
  have hK : to_ ≤ (to_.toNat : Int) * c.s := by
    rw [Int.toNat_of_nonneg (by omega)]
    have := Int.mul_le_mul_of_nonneg_left (show 1 ≤ c.s by omega) (show 0 ≤ to_ by omega)
    omega
  have hge := (strt0_bounds c core z (use_ok hv h0 h1 z0 (by omega))).1
  have hcan := strt0_can c core z hv h0 h1
  have hleast : ∀ y, z ≤ y → canGo c core y → strt0 c core z ≤ y := fun y a b => strt0_least c core z y hv h0 h1 a b
  generalize strt0 c core z = S at *
  rw [bnd_sum c core z to_ to_.toNat hv h0 h1 z0 hz ht hK, bnd_sum c core (S + c.t) to_ to_.toNat hv h0 h1 (by omega) he ht hK]
  have eS := Int.emod_add_mul_ediv S c.s
  have rS := Int.emod_nonneg S (show c.s ≠ 0 by omega)
  have qS : 0 ≤ S / c.s := Int.ediv_nonneg (by omega) (by omega)
  have hfit := hcan.2
  have hsi := sg_of c core (S / c.s) n1 qS hcan.1
  rw [Int.mul_comm] at eS
  generalize S / c.s = q at *
  generalize (q / c.n).toNat = i0 at *
  subst hsi
  have hi0 : i0 < to_.toNat := by
    have a := sg_ge c core n1 h0 i0
    have b := Int.mul_le_mul_of_nonneg_left (show 1 ≤ c.s by omega) qS
    omega
  have mul_s : ∀ a b : Int, a ≤ b → a * c.s ≤ b * c.s := fun a b h => Int.mul_le_mul_of_nonneg_right h (by omega)
  have hmax : max z (sg c core i0 * c.s) = S := by
    have hc := fit_can (y := max z (sg c core i0 * c.s)) hv (sg_mod c core i0 h0 h1) (by omega) (by omega)
    have := hleast _ (by omega) hc
    omega
  have key : ∀ K : Nat, Sm c core z to_ K = Sm c core (S + c.t) to_ K + (if i0 < K then 1 else 0) := by
    intro K
    induction K with
    | zero => simp [Sm]
    | succ K ih =>
      simp only [Sm]
      rw [ih]
      by_cases hlt : K < i0
      · have hs := sg_lt c core n1 K i0 hlt
        have hs2 := mul_s (sg c core K + 1) (sg c core i0) (by omega)
        rw [Int.add_mul] at hs2
        have a1 : part c (S + c.t) to_ (sg c core K) = 0 := part_left (by omega)
        have a2 : part c z to_ (sg c core K) = 0 := by
          rw [part_at]
          refine Int.ediv_eq_zero_of_lt (by omega) ?_
          by_cases h : max (min to_ (sg c core K * c.s + c.s) - max z (sg c core K * c.s)) 0 < c.t
          · exact h
          · exfalso
            have hc := fit_can (y := max z (sg c core K * c.s)) hv (sg_mod c core K h0 h1) (by omega) (by omega)
            have := hleast _ (show z ≤ max z (sg c core K * c.s) by omega) hc
            omega
        rw [a1, a2, if_neg (by omega), if_neg (by omega)]
      · by_cases heq : K = i0
        · subst heq
          have a1 : part c z to_ (sg c core K) = part c (S + c.t) to_ (sg c core K) + 1 := by
            rw [part_at, part_at]
            have e : max (min to_ (sg c core K * c.s + c.s) - max z (sg c core K * c.s)) 0 = max (min to_ (sg c core K * c.s + c.s) - max (S + c.t) (sg c core K * c.s)) 0 + 1 * c.t := by omega
            rw [e, Int.add_mul_ediv_right _ _ (by omega)]
          rw [a1, if_neg (by omega), if_pos (by omega)]
          omega
        · have hs := sg_lt c core n1 i0 K (by omega)
          have hs2 := mul_s (sg c core i0 + 1) (sg c core K) (by omega)
          rw [Int.add_mul] at hs2
          have a1 : part c z to_ (sg c core K) = part c (S + c.t) to_ (sg c core K) := by
            rw [part_at, part_at]
            congr 1
            omega
          rw [a1, if_pos (by omega), if_pos (by omega)]
          omega
  rw [key, if_pos hi0]
  omega

theorem bnd_least (c : Cfg) (core z : Int) (hv : vld c = true) (h0 : 0 ≤ core) (h1 : core < c.n) (z0 : 0 ≤ z) (z1 : z ≤ 1099500000000) : 1 ≤ bnd c core z (z + mtr c) ∧ 0 ≤ mtr c ∧ mtr c ≤ 5000000 := by
  obtain ⟨n1, n4, t1, ts, s6⟩ := vld_n hv
  have b := mwt_bounds n1 n4 (show 1 ≤ c.s by omega) s6
  have w := wait_le c core z hv h0 h1
  have em : mtr c = (c.n - 1) * c.s + c.t - 1 + c.t := by rw [mtr, if_pos hv]
  have sb := strt0_bounds c core z (use_ok hv h0 h1 z0 (by omega))
  have hK : z + mtr c ≤ ((z + mtr c).toNat : Int) * c.s := by
    rw [Int.toNat_of_nonneg (by omega)]
    have := Int.mul_le_mul_of_nonneg_left (show 1 ≤ c.s by omega) (show 0 ≤ z + mtr c by omega)
    omega
  rw [bnd_one c core z _ hv h0 h1 z0 (by omega) (by omega) (by omega), bnd_sum c core (strt0 c core z + c.t) _ (z + mtr c).toNat hv h0 h1 (by omega) (by omega) (by omega) hK]
  have := Sm_nonneg c core (strt0 c core z + c.t) (z + mtr c) hv (z + mtr c).toNat
  omega

theorem bnd_back (c : Cfg) (core x y : Int) (hv : vld c = true) (h0 : 0 ≤ core) (h1 : core < c.n) (x0 : 0 ≤ y) (hxy : y ≤ x) (x1 : x ≤ 1099511627776) : bnd c core x y = 0 := by
  rw [bnd, if_pos (use_ok2 hv h0 h1 (by omega) x1 x0 (by omega)), if_pos hxy]
end Go.Proofs.Ytjdkaagkaambkab
