/- An argument that is a configuration: fifteen ints. -/
import Derived.Test.YtjdkaagkaambkabA
import Derived.WideShapes
namespace Go.Proofs.Ytjdkaagkaambkab
open Go.WideShapes Go.RowKit

theorem cellTypes27 : Try.prog.cellTypes Try.prog.depth 27 = some [3, 3, 3, 3, 3, 3, 3, 3, 3, 3, 3, 3, 3, 3, 3] := by kernel_rfl
theorem cellsOf27 : Try.prog.cellsOf 27 = 15 := by kernel_rfl
theorem struct27 : ∃ fs, Try.prog.underlying 27 = some (.struct fs) := by
  rw [Try.underlying27]; exact ⟨_, rfl⟩

theorem open_cfg {W : World} {r : Reach} {base : Nat} {v : Value} (h : Value.okWide Try.prog W r base 27 v) : ∃ c : Cfg, v = cfgV c := by
  obtain ⟨fs, hs⟩ := struct27
  simp only [Value.okWide, hs] at h
  obtain ⟨cs, rfl, hsz, ts, ht, _, hc⟩ := h
  rw [cellTypes27] at ht
  obtain rfl := Option.some.inj ht
  have hone : ∀ (i : Nat) (x : Value), cs[i]? = some x → ∃ n : Int, x = .int .i64 n := by
    intro i x hx
    have hi : i < cs.size := (Array.getElem?_eq_some_iff.1 hx).1
    obtain ⟨u, hu, hk⟩ := hc i x hx
    have h3 : u = 3 := by
      have hmem := List.mem_of_getElem? hu
      simpa using hmem
    subst h3
    have hk' : Value.okWide Try.prog W r base 3 x := by simp only [Value.okWide, Try.underlying3]; exact hk
    obtain ⟨n, e⟩ := okWide_int Try.underlying3 hk'
    exact ⟨n, e⟩
  rw [cellsOf27] at hsz
  have hf : ∀ i : Nat, i < 15 → ∃ n : Int, cs[i]? = some (.int .i64 n) := fun i hi => by
    obtain ⟨n, e⟩ := hone i (cs[i]'(by omega)) (Array.getElem?_eq_getElem (by omega))
    exact ⟨n, by rw [Array.getElem?_eq_getElem (by omega), e]⟩
  obtain ⟨n0, e0⟩ := hf 0 (by omega)
  obtain ⟨n1, e1⟩ := hf 1 (by omega)
  obtain ⟨n2, e2⟩ := hf 2 (by omega)
  obtain ⟨n3, e3⟩ := hf 3 (by omega)
  obtain ⟨n4, e4⟩ := hf 4 (by omega)
  obtain ⟨n5, e5⟩ := hf 5 (by omega)
  obtain ⟨n6, e6⟩ := hf 6 (by omega)
  obtain ⟨n7, e7⟩ := hf 7 (by omega)
  obtain ⟨n8, e8⟩ := hf 8 (by omega)
  obtain ⟨n9, e9⟩ := hf 9 (by omega)
  obtain ⟨na, ea⟩ := hf 10 (by omega)
  obtain ⟨nb, eb⟩ := hf 11 (by omega)
  obtain ⟨nc, ec⟩ := hf 12 (by omega)
  obtain ⟨nd, ed⟩ := hf 13 (by omega)
  obtain ⟨ne, ee⟩ := hf 14 (by omega)
  refine ⟨⟨n0, n1, n2, n3, n4, n5, n6, n7, n8, n9, na, nb, nc, nd, ne⟩, ?_⟩
  rw [cfgV]
  congr 1
  refine Array.ext_getElem? fun i => ?_
  by_cases hi : i < 15
  · rcases (by omega : i = 0 ∨ i = 1 ∨ i = 2 ∨ i = 3 ∨ i = 4 ∨ i = 5 ∨ i = 6 ∨ i = 7 ∨ i = 8 ∨ i = 9 ∨ i = 10 ∨ i = 11 ∨ i = 12 ∨ i = 13 ∨ i = 14) with rfl | rfl | rfl | rfl | rfl | rfl | rfl | rfl | rfl | rfl | rfl | rfl | rfl | rfl | rfl
    all_goals first | exact e0 | exact e1 | exact e2 | exact e3 | exact e4 | exact e5 | exact e6 | exact e7 | exact e8 | exact e9 | exact ea | exact eb | exact ec | exact ed | exact ee
  · rw [Array.getElem?_eq_none (by omega), Array.getElem?_eq_none (by simp; omega)]
end Go.Proofs.Ytjdkaagkaambkab
