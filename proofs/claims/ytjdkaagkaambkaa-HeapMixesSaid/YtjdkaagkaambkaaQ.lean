/- A region that draws its order, walked once in the order of the text, behind a structure: so that no whnf of the goal walks on by itself. -/
import Derived.Test.YtjdkaagkaambkaaA
namespace Go.Proofs.Ytjdkaagkaambkaa
open Go.RowKit Go.Proofs

structure Wq (ops : Array Oper) (C : World → Prop) (Q : Act → Prop) (l : List Oper) (a : Act) : Prop where
  out : wpQuiet Try.prog ops C Q l a
theorem Wq.nil {ops : Array Oper} {C : World → Prop} {Q : Act → Prop} {a : Act} (h : Q a) : Wq ops C Q [] a := ⟨h⟩
theorem Wq.step {ops : Array Oper} {C : World → Prop} {Q : Act → Prop} {a : Act} {o : Oper} {rest : List Oper}
    (h : ∀ K : Act → Prop, (∀ a, Wq ops C Q rest a → K a) → if Region.wanted o (yielded ops a.tmps) then o.quiet Try.prog a C K else K (a.put o.dst undef)) : Wq ops C Q (o :: rest) a :=
  ⟨wpQuiet_step (fun K hK => h K (fun a ha => hK a ha.out))⟩
theorem wq_region {id : Nat} {Q : Exit → Act → World → Prop} {a : Act} {w : World} {l : List Oper} (hm : Try.prog.follows .mixedOrders = true) (hB : Region.lexB .any l.toArray = true)
    (h : Wq l.toArray (fun w' => ∃ u : Ext w, w' = u.1) (fun a' => ∀ w', (∃ u : Ext w, w' = u.1) → Q .normal a' w') l a) : (Code.region id l.toArray true).wp Try.prog Q a w :=
  wp_region_ext hm hB h.out
end Go.Proofs.Ytjdkaagkaambkaa
