import Derived.Test.YtjdkaagkaambkabH
import Derived.Test.YtjdkaagkaambkabPB
namespace Go.Proofs.Ytjdkaagkaambkab
open Go.RowKit Go.Proofs

theorem awake_b (w : World) : Calls Try.prog 11 #[] w fun e w' => e = .returned (.bool true) ∧ Below w.heap.size w w' := awake_any w

theorem mono_plain (c : Cfg) (core x d : Int) (hv : vld c = true) (h0 : 0 ≤ core) (h1 : core < c.n) (x0 : 0 ≤ x) (x1 : x ≤ 4294967295) (d0 : 0 ≤ d) (d1 : d ≤ 65535) :
    x ≤ strt0 c core x ∧ strt0 c core x ≤ strt0 c core (x + d) ∧ strt0 c core (strt0 c core x) = strt0 c core x ∧ (x + d ≤ strt0 c core x → strt0 c core (x + d) = strt0 c core x) := by
  have u : ∀ y, 0 ≤ y → y ≤ 1099511627776 → use c core [y] = true := fun y a b => by
    simp [use, hv, okc, h0, h1, a, b]
  have b1 := strt0_bounds c core x (u x x0 (by omega))
  have b2 := strt0_bounds c core (x + d) (u _ (by omega) (by omega))
  have b3 := strt0_bounds c core (strt0 c core x) (u _ (by omega) (by omega))
  have c1 := strt0_can c core x hv h0 h1
  have c2 := strt0_can c core (x + d) hv h0 h1
  refine ⟨b1.1, strt0_least c core x _ hv h0 h1 (by omega) c2, ?_, fun h => ?_⟩
  · have := strt0_least c core _ _ hv h0 h1 (Int.le_refl _) c1
    omega
  · have a := strt0_least c core (x + d) _ hv h0 h1 h c1
    have b := strt0_least c core x _ hv h0 h1 (by omega) c2
    omega
end Go.Proofs.Ytjdkaagkaambkab
