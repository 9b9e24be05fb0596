/- The bus: cycle, the reference's Valid and Owner. -/
import Derived.Test.YtjdkaagkaambkabD
namespace Go.Proofs.Ytjdkaagkaambkab
open Go.RowKit Go.Proofs

theorem rvalid_any (c : Cfg) (w : World) : Calls Try.prog 15 #[cfgV c] w fun e w' => e = .returned (.bool (vld c)) ∧ Below w.heap.size w w' := by
  obtain ⟨n, s, t, r0, r1, r2, r3, r4, r5, r6, r7, r8, r9, ra, rb⟩ := c
  have hb : Below w.heap.size w (w.alloc (.cells (cfgA ⟨n, s, t, r0, r1, r2, r3, r4, r5, r6, r7, r8, r9, ra, rb⟩) 27)) := (Below.refl _ _).alloc (Nat.le_refl _) _
  by_cases h1 : 1 ≤ n
  · by_cases h2 : n ≤ 4
    · by_cases h3 : 1 ≤ t
      · by_cases h4 : t ≤ s
        · by_cases h5 : s ≤ 1000000
          · go_enter Try.func15, Try.ntmps15
            go_wp2
            go_ret
            exact ⟨by simp [vld]; omega, hb⟩
          · go_enter Try.func15, Try.ntmps15
            go_wp2
            go_ret
            exact ⟨by simp [vld]; omega, hb⟩
        · go_enter Try.func15, Try.ntmps15
          go_wp2
          go_ret
          exact ⟨by simp [vld]; omega, hb⟩
      · go_enter Try.func15, Try.ntmps15
        go_wp2
        go_ret
        exact ⟨by simp [vld]; omega, hb⟩
    · go_enter Try.func15, Try.ntmps15
      go_wp2
      go_ret
      exact ⟨by simp [vld]; omega, hb⟩
  · go_enter Try.func15, Try.ntmps15
    go_wp2
    go_ret
    exact ⟨by simp [vld]; omega, hb⟩

theorem cycle_any (n : Int) (h0 : 0 ≤ n) (h1 : n < 4294967296) (w : World) : Calls Try.prog 13 #[.int .u32 n] w (IntEnd w n) := by
  have hw : IntKind.i64.wrap n = n := IntWalk.i64_in _ (by omega)
  go_enter Try.func13, Try.ntmps13
  go_wp2_with fail
  go_ret
  go_light
  exact ⟨rfl, Below.refl _ _⟩
end Go.Proofs.Ytjdkaagkaambkab
