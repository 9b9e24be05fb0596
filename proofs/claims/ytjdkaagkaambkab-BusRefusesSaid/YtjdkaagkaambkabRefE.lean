/- BusRefuses: the walk, joined. -/
import Derived.Test.YtjdkaagkaambkabRefB
import Derived.Test.YtjdkaagkaambkabRefC
import Derived.Test.YtjdkaagkaambkabRefD
namespace Go.Proofs.Ytjdkaagkaambkab
open Go.RowKit Go.Proofs

theorem ref_walk (c : Cfg) (core x : Int) (w : World) : Calls Try.prog 9 #[cfgV c, .int .i64 core, .int .i64 x] w (TrvEnd w) := by
  cases hv : vld c with
  | false => exact ref_inv c core x w hv
  | true =>
    by_cases ha : x < 0
    · by_cases h0 : core < 0
      · exact ref_a1 c core x w hv ha h0
      · by_cases h1 : c.n ≤ core
        · exact ref_a2 c core x w hv ha h0 h1
        · exact ref_a3 c core x w hv ha h0 h1
    · by_cases hb : 1099511627776 < x
      · by_cases h0 : core < 0
        · exact ref_b1 c core x w hv hb (by omega) h0
        · by_cases h1 : c.n ≤ core
          · exact ref_b2 c core x w hv hb (by omega) h0 h1
          · exact ref_b3 c core x w hv hb (by omega) h0 h1
      · by_cases h0 : core < 0
        · exact ref_c1 c core x w hv (by omega) (by omega) h0
        · by_cases h1 : c.n ≤ core
          · exact ref_c2 c core x w hv (by omega) (by omega) h0 h1
          · by_cases h2 : x > 100000
            · exact ref_c3 c core x w hv (by omega) (by omega) h0 h1 h2
            · exact ref_c4 c core x w hv (by omega) (by omega) h0 h1 h2
end Go.Proofs.Ytjdkaagkaambkab
