/- The heap that counts: down, Push, Len, New; the number of binary digits. -/
import Derived.Test.YtjdkaagkaambkaaFc
namespace Go.Proofs.Ytjdkaagkaambkaa
open Go.RowKit Go.Proofs

def DownUEnd (B : Nat) (w : World) (p q : Nat) (v : Value) (n : Nat) (nx k : Int) (e : Ending) (w' : World) : Prop :=
  e = .returned (.tuple #[]) ∧ ∃ (k' : Int) (r : Nat), k ≤ k' ∧ k' ≤ k + 4 * (r : Int) ∧ (r = 0 ∨ 2 ^ r ≤ n) ∧ HU B w' p q v n nx k' ∧ Below B w w'
theorem r_small {r n : Nat} (h : r = 0 ∨ 2 ^ r ≤ n) (hn : n ≤ 1000) : r ≤ 1000 := by
  rcases h with h | h
  · omega
  · have : r < 2 ^ r := Nat.lt_two_pow_self
    omega

set_option maxHeartbeats 16000000 in
set_option maxRecDepth 1000000 in
theorem down_u (B : Nat) (w : World) (p q : Nat) (ao : Option Addr) (n cap : Nat) (nx k : Int) (hH : HU B w p q (.slice ao n cap) n nx k) (hk : 0 ≤ k) (hk2 : k ≤ 1000) (hn : n ≤ 1000) :
    Calls Try.prog 38 #[.pointer (some ⟨p, 0, none⟩), .int .i64 0] w (DownUEnd B w p q (.slice ao n cap) n nx k) := by
  have HH := Lib.hid hH
  clear hH
  go_enter Try.func38, Try.ntmps38
  go_wp2_with fail
  go_loopg [1, 4] n (fun g iv _ wr => ∃ (i r : Nat) (k1 : Int) (wx : World), wx = wr ∧ iv = .int .i64 i ∧ n ≤ g + i ∧ i ≤ n ∧ k ≤ k1 ∧ k1 ≤ k + 4 * (r : Int) ∧ 2 ^ r ≤ i + 1 ∧ (r = 0 ∨ 2 ^ r ≤ n) ∧ HU B wx p q (.slice ao n cap) n nx k1 ∧ Below B w wx)
  case atStart => exact ⟨0, 0, k, _, rfl, rfl, by omega, Nat.zero_le _, Int.le_refl _, by omega, by simp, .inl rfl, HH.out, Below.refl _ _⟩
  case round =>
    clear HH
    obtain ⟨i, r, k1, wr, rfl, rfl, hig, hin, hk0, hkr, hri, hrn, hHy, hW⟩ := hrel
    have hrs := r_small hrn hn
    have hp2 : 2 ^ (r + 1) = 2 * 2 ^ r := by rw [Nat.pow_succ]; omega
    have hc1 := hHy.cells.2.1
    have HHy := Lib.hid hHy
    have HW := Lib.hid hW
    have HRn := Lib.hid hrn
    have HRi := Lib.hid hri
    have HP2 := Lib.hid hp2
    clear hHy hW hrn hri hp2
    have w1_ : IntKind.i64.wrap (2 * (i : Int)) = 2 * (i : Int) := IntWalk.i64_in _ (by omega)
    have w2_ : IntKind.i64.wrap (2 * (i : Int) + 1) = 2 * (i : Int) + 1 := IntWalk.i64_in _ (by omega)
    have w3_ : IntKind.i64.wrap (2 * (i : Int) + 1 + 1) = 2 * (i : Int) + 1 + 1 := IntWalk.i64_in _ (by omega)
    by_cases hA : 2 * i + 1 < n
    · have hA' : 2 * (i : Int) + 1 < (n : Int) := by omega
      by_cases hB : 2 * i + 1 + 1 < n
      · have hB' : 2 * (i : Int) + 1 + 1 < (n : Int) := by omega
        go_wp2_with fail
        refine (before_u B _ p q (.slice ao n cap) n nx k1 _ _ HHy.out (by omega) (by omega) ?_ ?_ ?_ ?_).mono ?_
        · omega
        · omega
        · omega
        · omega
        rintro e w1 ⟨b, k2, rfl, h1, h2, hH2, hb2⟩
        have hc2 := hH2.cells.2.1
        have HH2 := Lib.hid hH2
        have HB2 := Lib.hid hb2
        clear hH2 hb2
        cases b with
        | true =>
          go_wp2_with fail
          refine (before_u B _ p q (.slice ao n cap) n nx k2 _ _ HH2.out (by omega) (by omega) ?_ ?_ ?_ ?_).mono ?_
          · omega
          · omega
          · omega
          · omega
          rintro e w2 ⟨b2, k3, rfl, h3, h4, hH3, hb3⟩
          have HH3 := Lib.hid hH3
          have HB3 := Lib.hid hb3
          clear hH3 hb3
          cases b2 with
          | true =>
            go_wp2_with fail
            refine (swap_u B _ p q (.slice ao n cap) n nx k3 _ _ HH3.out ?_ ?_ ?_ ?_ ?_).mono ?_
            · omega
            · omega
            · omega
            · omega
            · omega
            rintro e w3 ⟨rfl, hH4, hb4⟩
            have HH4 := Lib.hid hH4
            have HB4 := Lib.hid hb4
            clear hH4 hb4
            go_wp2_with fail
            go_roundg (n - (2 * i + 1 + 1))
            case measure => omega
            case rel =>
              have h5 := HRi.out
              have h6 := HP2.out
              exact ⟨2 * i + 1 + 1, r + 1, k3, _, rfl, by go_num, by omega, by omega, by omega, by omega, by omega, .inr (by omega), HH4.out, ((HW.out.trans HB2.out).trans HB3.out).trans HB4.out⟩
          | false =>
            go_wp2_with fail
            go_end0
            have h5 := HRi.out
            have h6 := HP2.out
            exact ⟨rfl, k3, r + 1, by omega, by omega, .inr (by omega), HH3.out, ((HW.out.trans HB2.out).trans HB3.out)⟩
        | false =>
          go_wp2_with fail
          refine (before_u B _ p q (.slice ao n cap) n nx k2 _ _ HH2.out (by omega) (by omega) ?_ ?_ ?_ ?_).mono ?_
          · omega
          · omega
          · omega
          · omega
          rintro e w2 ⟨b2, k3, rfl, h3, h4, hH3, hb3⟩
          have HH3 := Lib.hid hH3
          have HB3 := Lib.hid hb3
          clear hH3 hb3
          cases b2 with
          | true =>
            go_wp2_with fail
            refine (swap_u B _ p q (.slice ao n cap) n nx k3 _ _ HH3.out ?_ ?_ ?_ ?_ ?_).mono ?_
            · omega
            · omega
            · omega
            · omega
            · omega
            rintro e w3 ⟨rfl, hH4, hb4⟩
            have HH4 := Lib.hid hH4
            have HB4 := Lib.hid hb4
            clear hH4 hb4
            go_wp2_with fail
            go_roundg (n - (2 * i + 1))
            case measure => omega
            case rel =>
              have h5 := HRi.out
              have h6 := HP2.out
              exact ⟨2 * i + 1, r + 1, k3, _, rfl, by go_num, by omega, by omega, by omega, by omega, by omega, .inr (by omega), HH4.out, ((HW.out.trans HB2.out).trans HB3.out).trans HB4.out⟩
          | false =>
            go_wp2_with fail
            go_end0
            have h5 := HRi.out
            have h6 := HP2.out
            exact ⟨rfl, k3, r + 1, by omega, by omega, .inr (by omega), HH3.out, ((HW.out.trans HB2.out).trans HB3.out)⟩
      · have hB' : (n : Int) ≤ 2 * (i : Int) + 1 + 1 := by omega
        go_wp2_with fail
        refine (before_u B _ p q (.slice ao n cap) n nx k1 _ _ HHy.out (by omega) (by omega) ?_ ?_ ?_ ?_).mono ?_
        · omega
        · omega
        · omega
        · omega
        rintro e w2 ⟨b2, k3, rfl, h3, h4, hH3, hb3⟩
        have HH3 := Lib.hid hH3
        have HB3 := Lib.hid hb3
        clear hH3 hb3
        cases b2 with
        | true =>
          go_wp2_with fail
          refine (swap_u B _ p q (.slice ao n cap) n nx k3 _ _ HH3.out ?_ ?_ ?_ ?_ ?_).mono ?_
          · omega
          · omega
          · omega
          · omega
          · omega
          rintro e w3 ⟨rfl, hH4, hb4⟩
          have HH4 := Lib.hid hH4
          have HB4 := Lib.hid hb4
          clear hH4 hb4
          go_wp2_with fail
          go_roundg (n - (2 * i + 1))
          case measure => omega
          case rel =>
            have h5 := HRi.out
            have h6 := HP2.out
            exact ⟨2 * i + 1, r + 1, k3, _, rfl, by go_num, by omega, by omega, by omega, by omega, by omega, .inr (by omega), HH4.out, (HW.out.trans HB3.out).trans HB4.out⟩
        | false =>
          go_wp2_with fail
          go_end0
          have h5 := HRi.out
          have h6 := HP2.out
          exact ⟨rfl, k3, r + 1, by omega, by omega, .inr (by omega), HH3.out, (HW.out.trans HB3.out)⟩
    · have hA' : (n : Int) ≤ 2 * (i : Int) + 1 := by omega
      go_wp2_with fail
      go_end0
      exact ⟨rfl, k1, r, hk0, hkr, HRn.out, HHy.out, HW.out⟩

theorem len_u (B : Nat) (w : World) (p q : Nat) (v : Value) (n : Nat) (nx k : Int) (hH : HU B w p q v n nx k) :
    Calls Try.prog 21 #[.pointer (some ⟨p, 0, none⟩)] w fun e w' => e = .returned (.int .i64 n) ∧ w = w' := by
  obtain ⟨ao, cap, rfl⟩ := hH.slice
  obtain ⟨c0, c1, c2, cf⟩ := hH.cells
  clear hH
  go_enter Try.func21, Try.ntmps21
  go_wp2
  go_ret
  exact ⟨rfl, rfl⟩

theorem cnt_ne_nil (q : Nat) (w : World) : (Go.binOp .eql 39 (cntF q) .nilFunc).run Try.prog w = .ok (.bool false) w := by kernel_rfl
theorem new_u (q : Nat) (w : World) :
    Calls Try.prog 17 #[cntF q] w fun e w' => e = .returned (.pointer (some ⟨w.heap.size, 0, none⟩)) ∧ w.alloc (.cells #[cntF q, .slice none 0 0, .int .i64 0] 71) = w' := by
  have hq := cnt_ne_nil q
  go_enter Try.func17, Try.ntmps17
  go_wp2
  go_ret
  exact ⟨rfl, rfl⟩

/-- The number of binary digits. -/
def bts (k : Nat) : Nat := if h : k = 0 then 0 else bts (k / 2) + 1
termination_by k
decreasing_by omega
theorem bts_zero : bts 0 = 0 := by rw [bts]; simp
theorem bts_pos (k : Nat) (h : k ≠ 0) : bts k = bts (k / 2) + 1 := by rw [bts]; simp [h]
theorem bts_le (k : Nat) : bts k ≤ k := by
  induction k using Nat.strongRecOn with
  | _ k ih =>
    by_cases h : k = 0
    · subst h; rw [bts_zero]; omega
    · rw [bts_pos k h]; have := ih (k / 2) (by omega); omega
theorem bts_pow (n : Nat) : ∀ r, 2 ^ r ≤ n → r + 1 ≤ bts n := by
  induction n using Nat.strongRecOn with
  | _ n ih =>
    intro r hr
    have h1 : 1 ≤ 2 ^ r := Nat.one_le_two_pow
    rw [bts_pos n (by omega)]
    cases r with
    | zero => omega
    | succ r =>
      rw [Nat.pow_succ] at hr
      have := ih (n / 2) (by omega) r (by omega)
      omega
theorem dep_pow (i : Nat) : 2 ^ dep i ≤ i + 1 := by
  induction i using Nat.strongRecOn with
  | _ i ih =>
    by_cases h : i = 0
    · subst h; rw [dep_zero]; simp
    · rw [dep_pos i h, Nat.pow_succ]; have := ih ((i - 1) / 2) (by omega); omega

set_option maxHeartbeats 2000000 in
theorem bits_u (n : Nat) (w : World) (hn : n ≤ 100000) : Calls Try.prog 19 #[.int .i64 n] w fun e w' => e = .returned (.int .i64 (bts n)) ∧ w = w' := by
  have hbl := bts_le n
  go_enter Try.func19, Try.ntmps19
  go_wp2_with fail
  go_loopg [0, 3] n (fun g kv bv wr => ∃ (m b : Nat) (wx : World), wx = wr ∧ kv = .int .i64 m ∧ bv = .int .i64 b ∧ m ≤ g ∧ m ≤ n ∧ b + bts m = bts n ∧ w = wx)
  case atStart => exact ⟨n, 0, _, rfl, rfl, rfl, Nat.le_refl _, Nat.le_refl _, by omega, rfl⟩
  case round =>
    obtain ⟨m, b, wr, rfl, rfl, rfl, hmg, hmn, hb, hw⟩ := hrel
    have HB := Lib.hid hb
    have HW := Lib.hid hw
    have hb9 : b ≤ 100000 := by omega
    clear hb hw
    by_cases h0 : m = 0
    · subst h0
      go_wp2_with fail
      go_ret
      go_light
      exact ⟨by have := HB.out; rw [bts_zero] at this; rw [← this] <;> rfl, HW.out⟩
    · have h0' : (0 : Int) < (m : Int) := by omega
      have HD := Lib.hid (bts_pos m h0)
      have htd : (m : Int).tdiv 2 = (m : Int) / 2 := Int.tdiv_eq_ediv_of_nonneg (by omega)
      have hw1 : IntKind.i64.wrap ((m : Int) / 2) = (m : Int) / 2 := IntWalk.i64_in _ (by omega)
      have hw2 : IntKind.i64.wrap ((b : Int) + 1) = (b : Int) + 1 := IntWalk.i64_in _ (by omega)
      clear h0
      go_wp2_with fail
      go_roundg (m / 2)
      case measure => go_light; omega
      case rel =>
        go_light
        exact ⟨m / 2, b + 1, _, rfl, by go_num, by go_num, by omega, by omega, by have h1 := HB.out; have h2 := HD.out; omega, HW.out⟩
end Go.Proofs.Ytjdkaagkaambkaa
