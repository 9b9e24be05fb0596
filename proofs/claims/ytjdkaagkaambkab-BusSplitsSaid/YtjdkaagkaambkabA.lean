/- The bus: validity, usability, owner, start, done, the greatest waits: each by a contract. -/
import Derived.Test.YtjdkaagkaambkabProg
import Derived.WalkKit
import Derived.WalkLawsBesides
import Derived.WalkSpells
import Derived.Deep.LoopGhost
import Derived.Deep.QuietTactic
import Derived.Deep.RegionHeld3
import Derived.Deep.DeepCutAuto
import Derived.Deep.Light
import Derived.BigRegion
import Derived.BigQuiet
import Derived.Lib.Hide
import Derived.Outline
namespace Go.Proofs.Ytjdkaagkaambkab
open Go.RowKit Go.Proofs

theorem bcell {W w1 : World} (hb : Below W.heap.size W w1) : (∀ b o, b < W.heap.size → w1.cell? ⟨b, o, none⟩ = W.cell? ⟨b, o, none⟩) ∧ (∀ b o, b < W.heap.size → w1.frozen? ⟨b, o, none⟩ = W.frozen? ⟨b, o, none⟩) :=
  ⟨fun b o h => hb.cell (p := ⟨b, o, none⟩) h, fun b o h => hb.frozen (p := ⟨b, o, none⟩) h⟩

/-- The worlds in which all that stood in w stands as it did. -/
def Ext (w : World) : Type := { u : World // Below w.heap.size w u }
instance Ext.inst (w : World) : Nonempty (Ext w) := ⟨⟨w, Below.refl _ _⟩⟩
theorem Ext.drew (w : World) : ∃ u : Ext w, { w with drawn := w.drawn + 1 } = u.1 := ⟨⟨w.drew, (Below.refl _ _).drew⟩, rfl⟩
theorem Ext.cell {w : World} {a : Addr} {v : Value} (h : w.cell? a = some v) (u : Ext w) : u.1.cell? a = some v := cell_later u.2 h
theorem Ext.call {w : World} (u : Ext w) {f : FuncId} {args : Array Value} {v : Value} (h : Calls Try.prog f args u.1 fun e w' => e = .returned v ∧ Below u.1.heap.size u.1 w') :
    Calls Try.prog f args u.1 fun e w'' => e = .returned v ∧ ∃ u' : Ext w, w'' = u'.1 :=
  h.mono fun _ _ ⟨he, hb⟩ => ⟨he, ⟨_, u.2.trans (hb.mono u.2.size)⟩, rfl⟩
structure Wq (ops : Array Oper) (C : World → Prop) (Q : Act → Prop) (l : List Oper) (a : Act) : Prop where
  out : wpQuiet Try.prog ops C Q l a
theorem Wq.nil {ops : Array Oper} {C : World → Prop} {Q : Act → Prop} {a : Act} (h : Q a) : Wq ops C Q [] a := ⟨h⟩
theorem Wq.step {ops : Array Oper} {C : World → Prop} {Q : Act → Prop} {a : Act} {o : Oper} {rest : List Oper}
    (h : ∀ K : Act → Prop, (∀ a, Wq ops C Q rest a → K a) → if Region.wanted o (yielded ops a.tmps) then o.quiet Try.prog a C K else K (a.put o.dst undef)) : Wq ops C Q (o :: rest) a :=
  ⟨wpQuiet_step (fun K hK => h K (fun a ha => hK a ha.out))⟩
theorem wq_region {id : Nat} {Q : Exit → Act → World → Prop} {a : Act} {w : World} {l : List Oper} (hm : Try.prog.follows .mixedOrders = true) (hB : Region.lexB .any l.toArray = true)
    (h : Wq l.toArray (fun w' => ∃ u : Ext w, w' = u.1) (fun a' => ∀ w', (∃ u : Ext w, w' = u.1) → Q .normal a' w') l a) : (Code.region id l.toArray true).wp Try.prog Q a w :=
  wp_region_quiet (C := fun w' => ∃ u : Ext w, w' = u.1) hm hB (Ext.drew w) (by simpa using h.out)

/-- A configuration: the three numbers that matter, and the twelve others. -/
structure Cfg where
  n : Int
  s : Int
  t : Int
  r0 : Int
  r1 : Int
  r2 : Int
  r3 : Int
  r4 : Int
  r5 : Int
  r6 : Int
  r7 : Int
  r8 : Int
  r9 : Int
  ra : Int
  rb : Int

def vld (c : Cfg) : Bool := decide (1 ≤ c.n ∧ c.n ≤ 4 ∧ 1 ≤ c.t ∧ c.t ≤ c.s ∧ c.s ≤ 1000000)
abbrev cfgA (c : Cfg) : Array Value := #[.int .i64 c.n, .int .i64 c.s, .int .i64 c.t, .int .i64 c.r0, .int .i64 c.r1, .int .i64 c.r2, .int .i64 c.r3, .int .i64 c.r4, .int .i64 c.r5, .int .i64 c.r6, .int .i64 c.r7, .int .i64 c.r8, .int .i64 c.r9, .int .i64 c.ra, .int .i64 c.rb]
abbrev cfgV (c : Cfg) : Value := .agg (cfgA c)

theorem valid_any (c : Cfg) (w : World) : Calls Try.prog 12 #[cfgV c] w fun e w' => e = .returned (.bool (vld c)) ∧ Below w.heap.size w w' := by
  obtain ⟨n, s, t, r0, r1, r2, r3, r4, r5, r6, r7, r8, r9, ra, rb⟩ := c
  have hb : Below w.heap.size w (w.alloc (.cells (cfgA ⟨n, s, t, r0, r1, r2, r3, r4, r5, r6, r7, r8, r9, ra, rb⟩) 27)) := (Below.refl _ _).alloc (Nat.le_refl _) _
  by_cases h1 : 1 ≤ n
  · by_cases h2 : n ≤ 4
    · by_cases h3 : 1 ≤ t
      · by_cases h4 : t ≤ s
        · by_cases h5 : s ≤ 1000000
          · go_enter Try.func12, Try.ntmps12
            go_wp2
            go_ret
            exact ⟨by simp [vld]; omega, hb⟩
          · go_enter Try.func12, Try.ntmps12
            go_wp2
            go_ret
            exact ⟨by simp [vld]; omega, hb⟩
        · go_enter Try.func12, Try.ntmps12
          go_wp2
          go_ret
          exact ⟨by simp [vld]; omega, hb⟩
      · go_enter Try.func12, Try.ntmps12
        go_wp2
        go_ret
        exact ⟨by simp [vld]; omega, hb⟩
    · go_enter Try.func12, Try.ntmps12
      go_wp2
      go_ret
      exact ⟨by simp [vld]; omega, hb⟩
  · go_enter Try.func12, Try.ntmps12
    go_wp2
    go_ret
    exact ⟨by simp [vld]; omega, hb⟩

/-- A slice of ints that reads as l. -/
def Ints (w : World) (v : Value) (l : List Int) : Prop := ∃ ao cap, v = .slice ao l.length cap ∧
  (0 < l.length → ∃ b off, ao = some ⟨b, off, none⟩ ∧ b < w.heap.size ∧ ∀ i (h : i < l.length), w.cell? ⟨b, off + i, none⟩ = some (.int .i64 l[i]))
theorem Ints.below {w w' : World} {v : Value} {l : List Int} (h : Ints w v l) (hb : Below w.heap.size w w') : Ints w' v l := by
  obtain ⟨ao, cap, hv, h⟩ := h
  refine ⟨ao, cap, hv, fun h0 => ?_⟩
  obtain ⟨b, off, ha, hlt, hc⟩ := h h0
  exact ⟨b, off, ha, Nat.lt_of_lt_of_le hlt hb.size, fun i hi => by rw [(bcell hb).1 _ _ hlt]; exact hc i hi⟩
theorem Ints.at {w : World} {ao : Option Addr} {n cap : Nat} {l : List Int} (h : Ints w (.slice ao n cap) l) (j : Nat) (hj : j < l.length) :
    ∃ bb off, ao = some ⟨bb, off, none⟩ ∧ bb < w.heap.size ∧ w.cell? ⟨bb, off + j, none⟩ = some (.int .i64 l[j]) := by
  obtain ⟨ao', cap', e, h⟩ := h
  simp only [Value.slice.injEq] at e
  obtain ⟨rfl, _, _⟩ := e
  obtain ⟨bb, off, h1, h2, h3⟩ := h (by omega)
  exact ⟨bb, off, h1, h2, h3 j hj⟩
theorem ints_one (w : World) (x : Int) : Ints (w.alloc (.cells #[.int .i64 x] 3)) (.slice (some ⟨w.heap.size, 0, none⟩) 1 1) [x] := by
  refine ⟨_, 1, rfl, fun _ => ⟨w.heap.size, 0, rfl, by simp, fun i hi => ?_⟩⟩
  have h := heap_alloc_new w (.cells #[.int .i64 x] 3)
  rw [cell_of_row _ _ _ _ _ _ h]
  simp only [List.length_cons, List.length_nil] at hi
  obtain rfl : i = 0 := by omega
  rfl
theorem ints_two (w : World) (x y : Int) : Ints (w.alloc (.cells #[.int .i64 x, .int .i64 y] 3)) (.slice (some ⟨w.heap.size, 0, none⟩) 2 2) [x, y] := by
  refine ⟨_, 2, rfl, fun _ => ⟨w.heap.size, 0, rfl, by simp, fun i hi => ?_⟩⟩
  have h := heap_alloc_new w (.cells #[.int .i64 x, .int .i64 y] 3)
  rw [cell_of_row _ _ _ _ _ _ h]
  simp only [List.length_cons, List.length_nil] at hi
  rcases (by omega : i = 0 ∨ i = 1) with rfl | rfl <;> rfl

def okc (t : Int) : Bool := decide (0 ≤ t ∧ t ≤ 1099511627776)
def use (c : Cfg) (core : Int) (l : List Int) : Bool := vld c && decide (0 ≤ core ∧ core < c.n) && l.all okc

def UseEnd (w : World) (b : Bool) (e : Ending) (w' : World) : Prop := e = .returned (.bool b) ∧ Below w.heap.size w w'

theorem vld_n {c : Cfg} (h : vld c = true) : 1 ≤ c.n ∧ c.n ≤ 4 ∧ 1 ≤ c.t ∧ c.t ≤ c.s ∧ c.s ≤ 1000000 := by simpa [vld] using h

set_option maxHeartbeats 2000000 in
set_option maxRecDepth 1000000 in
theorem usable_any (c : Cfg) (core : Int) (ao : Option Addr) (n cap : Nat) (l : List Int) (w : World) (hA : Ints w (.slice ao n cap) l) (hl : l.length = n) (hn : n ≤ 100) :
    Calls Try.prog 24 #[cfgV c, .int .i64 core, .slice ao n cap] w (UseEnd w (use c core l)) := by
  obtain ⟨hb0, hu⟩ : ∃ b, vld c = b := ⟨_, rfl⟩
  have HA := Lib.hid hA
  have HL := Lib.hid hl
  have HU := Lib.hid hu
  clear hA hl hu
  cases hb0 with
  | false =>
    go_enter Try.func24, Try.ntmps24
    go_wp2_with fail
    refine (valid_any c _).mono ?_
    rintro e w1 ⟨rfl, hb1⟩
    rw [HU.out]
    have HB1 := Lib.hid hb1
    clear hb1
    go_wp2_with fail
    go_ret
    go_light
    have e1 : use c core l = false := by simp [use, HU.out]
    rw [e1]
    exact ⟨rfl, ((Below.refl _ _).alloc (Nat.le_refl _) _).trans (HB1.out.mono (by simp))⟩
  | true =>
    by_cases hc0 : core < 0
    · go_enter Try.func24, Try.ntmps24
      go_wp2_with fail
      refine (valid_any c _).mono ?_
      rintro e w1 ⟨rfl, hb1⟩
      rw [HU.out]
      have HB1 := Lib.hid hb1
      clear hb1
      go_wp2_with fail
      go_ret
      go_light
      have e1 : use c core l = false := by
        have : decide (0 ≤ core ∧ core < c.n) = false := decide_eq_false (by omega)
        simp [use, this]
      rw [e1]
      exact ⟨rfl, ((Below.refl _ _).alloc (Nat.le_refl _) _).trans (HB1.out.mono (by simp))⟩
    · have hc0' : 0 ≤ core := by omega
      have hcn : Hid (1 ≤ c.n ∧ c.n ≤ 4) := Lib.hid ⟨(vld_n HU.out).1, (vld_n HU.out).2.1⟩
      by_cases hc1 : core < c.n
      · clear hc0
        go_enter Try.func24, Try.ntmps24
        go_wp2_with fail
        refine (valid_any c _).mono ?_
        rintro e w1 ⟨rfl, hb1⟩
        rw [HU.out]
        have x0 : w1.cell? ⟨w.heap.size, 0, none⟩ = some (.int .i64 c.n) := by
          have := heap_alloc_new w (.cells (cfgA c) 27)
          rw [← hb1.block _ (by simp)] at this
          exact cell_of_row w1 _ 0 _ _ _ this
        have HB1 := Lib.hid (((Below.refl _ _).alloc (Nat.le_refl _) _).trans (hb1.mono (by simp)))
        clear hb1
        go_wp2_with fail
        go_loopg [24] n (fun g jv wr => ∃ j : Nat, jv = .int .i64 j ∧ j ≤ n ∧ n ≤ g + j ∧ w1 = wr ∧ (l.take j).all okc = true)
        case atStart => exact ⟨0, rfl, Nat.zero_le _, by omega, rfl, by simp⟩
        case round =>
          obtain ⟨j, rfl, hjn, hg, rfl, hall⟩ := hrel
          have HAll := Lib.hid hall
          clear hall
          by_cases hlt : j < n
          · have hlt' : (j : Int) < (n : Int) := by omega
            have hjl : j < l.length := by have := HL.out; omega
            obtain ⟨bb, off, rfl, _, d0⟩ := Ints.at (HA.out.below HB1.out) j hjl
            obtain ⟨x, hx⟩ : ∃ x, l[j] = x := ⟨_, rfl⟩
            rw [hx] at d0
            have HX := Lib.hid hx
            clear hx
            by_cases hx0 : x < 0
            · go_wp2_with fail
              go_ret
              go_light
              have e1 : use c core l = false := by
                have : l.all okc = false := by
                  rw [List.all_eq_false]
                  exact ⟨l[j], List.getElem_mem hjl, by rw [HX.out]; simp [okc]; omega⟩
                simp [use, this]
              rw [e1]
              exact ⟨rfl, HB1.out⟩
            · have hx0' : 0 ≤ x := by omega
              by_cases hx1 : x ≤ 1099511627776
              · clear hx0
                go_wp2_with fail
                go_roundg (n - (j + 1))
                case measure => go_light; omega
                case rel =>
                  go_light
                  refine ⟨j + 1, by go_num, by omega, by omega, rfl, ?_⟩
                  rw [List.take_succ_eq_append_getElem hjl, List.all_append, HAll.out, HX.out]
                  simp [okc]
                  omega
              · have hx1' : 1099511627776 < x := by omega
                clear hx0 hx1
                go_wp2_with fail
                go_ret
                go_light
                have e1 : use c core l = false := by
                  have : l.all okc = false := by
                    rw [List.all_eq_false]
                    exact ⟨l[j], List.getElem_mem hjl, by rw [HX.out]; simp [okc]; omega⟩
                  simp [use, this]
                rw [e1]
                exact ⟨rfl, HB1.out⟩
          · obtain rfl : j = n := by omega
            go_wp2_with fail
            go_ret
            go_light
            have e2 : l.take j = l := List.take_of_length_le (by have := HL.out; omega)
            have h1 := HAll.out
            rw [e2] at h1
            have e1 : use c core l = true := by simp [use, HU.out, h1, hc0', hc1]
            rw [e1]
            exact ⟨rfl, HB1.out⟩
      · have hc1' : c.n ≤ core := by omega
        clear hc0 hc1
        go_enter Try.func24, Try.ntmps24
        go_wp2_with fail
        refine (valid_any c _).mono ?_
        rintro e w1 ⟨rfl, hb1⟩
        rw [HU.out]
        have x0 : w1.cell? ⟨w.heap.size, 0, none⟩ = some (.int .i64 c.n) := by
          have := heap_alloc_new w (.cells (cfgA c) 27)
          rw [← hb1.block _ (by simp)] at this
          exact cell_of_row w1 _ 0 _ _ _ this
        have HB1 := Lib.hid (((Below.refl _ _).alloc (Nat.le_refl _) _).trans (hb1.mono (by simp)))
        clear hb1
        go_wp2_with fail
        go_ret
        go_light
        have e1 : use c core l = false := by
          have : decide (0 ≤ core ∧ core < c.n) = false := decide_eq_false (by omega)
          simp [use, this]
        rw [e1]
        exact ⟨rfl, HB1.out⟩
end Go.Proofs.Ytjdkaagkaambkab
