/- The heap that counts: swap, up, down, each with the number of its comparisons. -/
import Derived.Test.YtjdkaagkaambkaaFb
namespace Go.Proofs.Ytjdkaagkaambkaa
open Go.RowKit Go.Proofs

def BefEnd (B : Nat) (w : World) (p q : Nat) (v : Value) (n : Nat) (nx k : Int) (e : Ending) (w' : World) : Prop :=
  ∃ b k', e = .returned (.bool b) ∧ k + 1 ≤ k' ∧ k' ≤ k + 2 ∧ HU B w' p q v n nx k' ∧ Below B w w'
theorem before_u (B : Nat) (w : World) (p q : Nat) (v : Value) (n : Nat) (nx k : Int) (i j : Int) (hH : HU B w p q v n nx k) (hk : 0 ≤ k) (hk2 : k ≤ 1000000) (hi0 : 0 ≤ i) (hi : i < n) (hj0 : 0 ≤ j) (hj : j < n) :
    Calls Try.prog 42 #[.pointer (some ⟨p, 0, none⟩), .int .i64 i, .int .i64 j] w (BefEnd B w p q v n nx k) := by
  obtain ⟨i, rfl⟩ := Int.eq_ofNat_of_zero_le hi0
  obtain ⟨j, rfl⟩ := Int.eq_ofNat_of_zero_le hj0
  obtain ⟨g, cap, rfl, hg, _, _⟩ := hH.form (by omega)
  obtain ⟨c0, c1, c2, _⟩ := hH.cells
  obtain ⟨xs, hr⟩ := hH.row
  obtain ⟨i0, i1⟩ := hr.item i (by omega)
  obtain ⟨j0, j1⟩ := hr.item j (by omega)
  refine (beforeu_raw p q g n cap i j _ _ _ _ k w (by omega) (by omega) hH.small hH.pq hH.lt hg c0 c1 hH.cnt hk hk2 i0 i1 j0 j1).mono ?_
  rintro e w' ⟨b, k', he, h1, h2, h3, h4⟩
  obtain ⟨h5, h6⟩ := hH.count h4 h3
  exact ⟨b, k', he, h1, h2, h5, h6⟩

set_option maxHeartbeats 4000000 in
set_option maxRecDepth 1000000 in
theorem swapu_raw (p g n cap i j : Nat) (a c a' c' : Int) (w : World) (hi : i < n) (hj : j < n) (_hn : n ≤ 1000000)
   (h1 : w.cell? ⟨p, 1, none⟩ = some (.slice (some ⟨g, 0, none⟩) n cap))
   (i0 : w.cell? ⟨g, i * 2, none⟩ = some (.int .u16 a)) (i1 : w.cell? ⟨g, i * 2 + 1, none⟩ = some (.int .i64 c))
   (j0 : w.cell? ⟨g, j * 2, none⟩ = some (.int .u16 a')) (j1 : w.cell? ⟨g, j * 2 + 1, none⟩ = some (.int .i64 c'))
   (fz : ∀ o, w.frozen? ⟨g, o, none⟩ = false) (hne : i ≠ j) :
    Calls Try.prog 43 #[.pointer (some ⟨p, 0, none⟩), .int .i64 i, .int .i64 j] w fun e w' => e = .returned (.tuple #[]) ∧
      ((((w.setCell ⟨g, i * 2, none⟩ (.int .u16 a')).setCell ⟨g, i * 2 + 1, none⟩ (.int .i64 c')).setCell
        ⟨g, j * 2, none⟩ (.int .u16 a)).setCell ⟨g, j * 2 + 1, none⟩ (.int .i64 c)).drew = w' := by
  have q : ∀ (W : World) (x : Nat) (v u : Value) (y : Nat), x ≠ y → W.cell? ⟨g, y, none⟩ = some u → (W.setCell ⟨g, x, none⟩ v).cell? ⟨g, y, none⟩ = some u := by
    intro W x v u y hxy h
    rw [World.cell?_setCell_other _ _ _ _ (fun e => hxy (congrArg Addr.off e))]; exact h
  have s0 := q w (i * 2) (.int .u16 a') _ _ (by omega) j0
  have s1 := q _ (i * 2 + 1) (.int .i64 c') _ _ (by omega) (q w (i * 2) (.int .u16 a') _ _ (by omega) j1)
  have r0 := q w (j * 2) (.int .u16 a) _ _ (by omega) i0
  have r1 := q _ (j * 2 + 1) (.int .i64 c) _ _ (by omega) (q w (j * 2) (.int .u16 a) _ _ (by omega) i1)
  clear q hne
  go_enter Try.func43, Try.ntmps43
  go_wp2
  go_region
  all_goals go_wp2
  all_goals go_end0
  all_goals exact ⟨rfl, rfl⟩

def SwpEnd (B : Nat) (w : World) (p q : Nat) (v : Value) (n : Nat) (nx k : Int) (e : Ending) (w' : World) : Prop :=
  e = .returned (.tuple #[]) ∧ HU B w' p q v n nx k ∧ Below B w w'
theorem swap_u (B : Nat) (w : World) (p q : Nat) (v : Value) (n : Nat) (nx k : Int) (i j : Int) (hH : HU B w p q v n nx k) (hi0 : 0 ≤ i) (hi : i < n) (hj0 : 0 ≤ j) (hj : j < n) (hne : i ≠ j) :
    Calls Try.prog 43 #[.pointer (some ⟨p, 0, none⟩), .int .i64 i, .int .i64 j] w (SwpEnd B w p q v n nx k) := by
  obtain ⟨i, rfl⟩ := Int.eq_ofNat_of_zero_le hi0
  obtain ⟨j, rfl⟩ := Int.eq_ofNat_of_zero_le hj0
  obtain ⟨g, cap, rfl, hg, _, _⟩ := hH.form (by omega)
  obtain ⟨c0, c1, c2, _⟩ := hH.cells
  obtain ⟨xs, hr⟩ := hH.row
  obtain ⟨i0, i1⟩ := hr.item i (by omega)
  obtain ⟨j0, j1⟩ := hr.item j (by omega)
  refine (swapu_raw p g n cap i j _ _ _ _ w (by omega) (by omega) hH.small c1 i0 i1 j0 j1 hr.free (by omega)).mono ?_
  rintro e w' ⟨he, hw⟩
  obtain ⟨r1, g1⟩ := hr.set i (by omega) (xs[j]'(by rw [hr.1]; omega))
  obtain ⟨r2, g2⟩ := r1.set j (by omega) (xs[i]'(by rw [hr.1]; omega))
  have gw := grown_drew (grown_trans g1 g2)
  rw [hw] at gw
  obtain ⟨h1, h2⟩ := hH.rows (ys := (xs.set i (xs[j]'(by rw [hr.1]; omega))).set j (xs[i]'(by rw [hr.1]; omega))) gw (by rw [← hw]; exact r2)
  exact ⟨he, h1, h2⟩

/-- How many steps 'up' can take from i. -/
def dep (i : Nat) : Nat := if h : i = 0 then 0 else dep ((i - 1) / 2) + 1
termination_by i
decreasing_by omega
theorem dep_zero : dep 0 = 0 := by rw [dep]; simp
theorem dep_pos (i : Nat) (h : i ≠ 0) : dep i = dep ((i - 1) / 2) + 1 := by rw [dep]; simp [h]
theorem dep_le (i : Nat) : dep i ≤ i := by
  induction i using Nat.strongRecOn with
  | _ i ih =>
    by_cases h : i = 0
    · subst h; rw [dep_zero]; omega
    · rw [dep_pos i h]; have := ih ((i - 1) / 2) (by omega); omega

def UpUEnd (B : Nat) (w : World) (p q : Nat) (v : Value) (n : Nat) (nx k : Int) (i0 : Nat) (e : Ending) (w' : World) : Prop :=
  e = .returned (.tuple #[]) ∧ ∃ k', k ≤ k' ∧ k' ≤ k + 2 * (dep i0 : Int) ∧ HU B w' p q v n nx k' ∧ Below B w w'

set_option maxHeartbeats 4000000 in
set_option maxRecDepth 1000000 in
theorem up_u (B : Nat) (w : World) (p q : Nat) (v : Value) (n : Nat) (nx k : Int) (i0 : Nat) (hH : HU B w p q v n nx k) (hk : 0 ≤ k) (hk2 : k ≤ 1000) (hi : i0 < n) (hn : n ≤ 1000) :
    Calls Try.prog 37 #[.pointer (some ⟨p, 0, none⟩), .int .i64 i0] w (UpUEnd B w p q v n nx k i0) := by
  have HH := Lib.hid hH
  have hd0 := dep_le i0
  clear hH
  go_enter Try.func37, Try.ntmps37
  go_wp2_with fail
  go_loopg [1] i0 (fun g iv wr => ∃ (i : Nat) (k1 : Int) (wx : World), wx = wr ∧ iv = .int .i64 i ∧ i < n ∧ i ≤ g ∧ k ≤ k1 ∧ k1 + 2 * (dep i : Int) ≤ k + 2 * (dep i0 : Int) ∧ HU B wx p q v n nx k1 ∧ Below B w wx)
  case atStart => exact ⟨i0, k, _, rfl, rfl, hi, Nat.le_refl _, Int.le_refl _, Int.le_refl _, HH.out, Below.refl _ _⟩
  case round =>
    clear HH
    obtain ⟨i, k1, wr, rfl, rfl, hin, hig, hk0, hkd, hHy, hW⟩ := hrel
    have HHy := Lib.hid hHy
    have HW := Lib.hid hW
    clear hHy hW
    by_cases h0 : i = 0
    · subst h0
      go_wp2_with fail
      go_end0
      exact ⟨rfl, k1, hk0, by omega, HHy.out, HW.out⟩
    · have h0' : (0 : Int) < (i : Int) := by omega
      have hdp := dep_pos i h0
      have hdd : (dep i : Int) ≤ (dep ((i - 1) / 2) : Int) + 1 ∧ (dep ((i - 1) / 2) : Int) + 1 ≤ (dep i : Int) := by omega
      clear h0 hdp
      have hw1 : IntKind.i64.wrap ((i : Int) - 1) = (i : Int) - 1 := IntWalk.i64_in _ (by omega)
      have htd : ((i : Int) - 1).tdiv 2 = ((i : Int) - 1) / 2 := Int.tdiv_eq_ediv_of_nonneg (by omega)
      go_wp2_with fail
      refine (before_u B _ p q v n nx k1 _ _ HHy.out (by omega) (by omega) ?_ ?_ ?_ ?_).mono ?_
      · omega
      · omega
      · omega
      · omega
      rintro e w1 ⟨b, k2, rfl, h1, h2, hH2, hb2⟩
      have HH2 := Lib.hid hH2
      have HB2 := Lib.hid hb2
      clear hH2 hb2
      cases b with
      | true =>
        go_wp2_with fail
        refine (swap_u B _ p q v n nx k2 _ _ HH2.out ?_ ?_ ?_ ?_ ?_).mono ?_
        · omega
        · omega
        · omega
        · omega
        · omega
        rintro e w2 ⟨rfl, hH3, hb3⟩
        have HH3 := Lib.hid hH3
        have HB3 := Lib.hid hb3
        clear hH3 hb3
        go_wp2_with fail
        go_roundg (i - 1)
        case measure => omega
        case rel =>
          refine ⟨(i - 1) / 2, k2, _, rfl, by go_num, by omega, by omega, by omega, by omega, HH3.out, (HW.out.trans HB2.out).trans HB3.out⟩
      | false =>
        go_wp2_with fail
        go_end0
        exact ⟨rfl, k2, by omega, by omega, HH2.out, HW.out.trans HB2.out⟩
end Go.Proofs.Ytjdkaagkaambkaa
