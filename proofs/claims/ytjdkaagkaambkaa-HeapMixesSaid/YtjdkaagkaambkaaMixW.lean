/- The walk of HeapMixes: for every list of items and every list of bytes it answers true and leaves what was there. -/
import Derived.Test.YtjdkaagkaambkaaMc
namespace Go.Proofs.Ytjdkaagkaambkaa
open Go.RowKit Go.Proofs Go.Maps Go.WideElems
def TrueEndM (w : World) (e : Ending) (w' : World) : Prop := e = .returned (.bool true) ∧ Below w.heap.size w w'
def MSx (w : World) (P C q m : Nat) (wx : World) : Prop := ∃ xs nx v es clock, MS w P C q wx xs nx v es clock ∧ 0 ≤ nx ∧ nx ≤ 200 ∧ nx ≤ m ∧ xs.size ≤ m
set_option maxHeartbeats 8000000 in
set_option maxRecDepth 1000000 in
theorem mixes_walk (ao bo : Option Addr) (n cap n' cap' : Nat) (l : List (Int × Int)) (ps : List Int) (w : World) (hA : Arr2 w (.slice ao n cap) l) (hB : Bts w (.slice bo n' cap') ps) (hl : l.length = n) (hps : ps.length = n') (hwf : ∀ x ∈ l, Wf2 x) : Calls Try.prog 6 #[.slice ao n cap, .slice bo n' cap'] w (TrueEndM w) := by
  have hmm := @run_makeMap Try.prog
  have HL := Lib.hid hl
  have HA := Lib.hid hA
  have HPl := Lib.hid hps
  have HBt := Lib.hid hB
  have HWf := Lib.hid hwf
  clear hA hl hps hB hwf
  by_cases hbig : 200 < n
  · have hbig' : (200 : Int) < (n : Int) := by omega
    go_enter Try.func6, Try.ntmps6
    go_wp2_with (go_at_call 11; refine (awake_any _).mono ?_; rintro e w1 ⟨rfl, hb1⟩)
    go_ret
    exact ⟨rfl, hb1⟩
  · have hsm : (n : Int) ≤ 200 := by omega
    have hsm' : n ≤ 200 := by omega
    clear hbig
    by_cases hbig : 200 < n'
    · have hbig' : (200 : Int) < (n' : Int) := by omega
      go_enter Try.func6, Try.ntmps6
      go_wp2_with (go_at_call 11; refine (awake_any _).mono ?_; rintro e w1 ⟨rfl, hb1⟩)
      go_ret
      exact ⟨rfl, hb1⟩
    · have hsn : (n' : Int) ≤ 200 := by omega
      have hsn' : n' ≤ 200 := by omega
      clear hbig
      go_enter Try.func6, Try.ntmps6
      go_wp2_with fail
      refine (awake_any _).mono ?_
      rintro e w1 ⟨rfl, hb1⟩
      have HB1 := Lib.hid hb1
      clear hb1
      go_wp2_with fail
      refine (new_any 23 _).mono ?_
      rintro e w2 ⟨rfl, hw2⟩
      have h0 : Hid (MSx w w1.heap.size w2.heap.size 0 0 (w2.alloc (.map #[] 0))) := Lib.hid (by
        have hw2s : w2.heap.size = w1.heap.size + 1 := by rw [← hw2]; simp
        have hH : HeapAt w2 w1.heap.size 23 (.slice none 0 0) #[] 0 := by rw [← hw2]; exact heap_new w1 23
        have hB2 : Below w.heap.size w w2 := by rw [← hw2]; exact HB1.out.alloc HB1.out.size _
        refine ⟨#[], 0, .slice none 0 0, #[], 0, ⟨hH.below ((Below.refl _ _).alloc (Nat.le_refl _) _), inv_new.choose_spec.2.2.1, ?_, fun x hx => by simp at hx, hB2.alloc hB2.size _, fun k hk => by simp [Value.ownBlock] at hk, HB1.out.size, by have := HB1.out.size; omega⟩, Int.le_refl _, by omega, Int.le_refl _, Nat.le_refl _⟩
        obtain ⟨es, clock, h1, h2, h3, _⟩ := World.ownsMap_made w2 Try.prog 26 mR
        have e := heap_alloc_new w2 (.map #[] 0)
        rw [e] at h1
        simp at h1
        obtain ⟨rfl, rfl⟩ := h1
        exact ⟨e, h2, by simp, fun e he => by simp at he, fun x _ => by simp [cf, cd]⟩)
      clear hw2
      go_wp2_with fail
      generalize w1.heap.size = P at *
      generalize w2.heap.size = C at *
      go_loopg [31] (n - 0) (fun g jv wr => ∃ (j q : Nat) (wx : World), wx = wr ∧ jv = .int .i64 j ∧ j ≤ n ∧ n ≤ g + j ∧ q ≤ 10 * j ∧ MSx w P C q j wx)
      case atStart => exact ⟨0, 0, _, rfl, rfl, Nat.zero_le _, by omega, by omega, h0.out⟩
      case round =>
        clear h0
        obtain ⟨j, qq, wr, rfl, rfl, hjn, hg, hqq, xs, nx, v, es, clock, hM, hn0, hn2, hnj, hxj⟩ := hrel
        have HM := Lib.hid hM
        clear hM
        by_cases hlt : j < n
        · have hlt' : (j : Int) < (n : Int) := by omega
          have hjl : j < l.length := by have := HL.out; omega
          have hwj : IntKind.i64.wrap ((j : Int) + 1) = (j : Int) + 1 := IntWalk.i64_in _ (by omega)
          obtain ⟨lb, lof, rfl, hlb, d0, d1⟩ := Arr2.at (HA.out.below HM.out.bel) j hjl
          have hwx := HWf.out _ (List.getElem_mem hjl)
          obtain ⟨a, ha⟩ : ∃ k, l[j].1 = k := ⟨_, rfl⟩
          obtain ⟨b, hb⟩ : ∃ k, l[j].2 = k := ⟨_, rfl⟩
          rw [ha] at d0
          rw [hb] at d1
          have HWx : Hid (Wf2 (a, b)) := Lib.hid (by rw [← ha, ← hb]; exact hwx)
          clear ha hb hwx
          go_wp2_with fail
          have hM1 := HM.out.below ((Below.refl _ _).alloc (Nat.le_refl _) (.cells #[.int .i64 a, .int .i64 b] 26))
          refine (push_any 23 idK byKey_less run23 P v xs nx a b _ hM1.hp (by omega) hn0 (by omega)).mono ?_
          rintro e w3 ⟨rfl, v3, hH3, hS3⟩
          have hx3 := blk_keep (heap_alloc_new wr (.cells #[.int .i64 a, .int .i64 b] 26)) hM1.hp hS3 (by decide) (by decide)
          have hm3 := (map_keep hM1.mc hM1.hp hS3)
          have hcl := cf_le xs (a, b)
          obtain ⟨v0, st, W2, W4, es', clock', r1, r2, r3, r4, hM4, hg4⟩ := inc_runs (w := w3.drew) (hm3.keep rfl) (a, b) HWx.out (cf xs (a, b) + 1) (wf_small (by omega) (by omega)) (by unfold maxLen; omega)
          have HM4 := Lib.hid (hM1.pushed HWx.out hH3 hS3 ((Below.refl w3.heap.size w3).drew) hg4 hM4)
          have x0 : w3.cell? ⟨wr.heap.size, 0, none⟩ = some (.int .i64 a) := cell_of_row _ _ 0 _ _ _ hx3
          have x1 : w3.cell? ⟨wr.heap.size, 1, none⟩ = some (.int .i64 b) := cell_of_row _ _ 1 _ _ _ hx3
          obtain ⟨c, hc⟩ : ∃ c, cf xs (a, b) = c := ⟨_, rfl⟩
          simp only [hc] at r1 r3 r4 hcl
          have hwc : IntKind.i64.wrap (c + 1) = c + 1 := IntWalk.i64_in _ (by omega)
          clear hM1 hH3 hS3 hx3 hm3 hM4 hg4 hc d0 d1 hlb
          generalize wr.heap.size = X at *
          go_upto_region 11 with fail
          go_cut [42] (fun _ w' => W4 = w')
          case first =>
            go_region
            all_goals (go_wp2_with fail; go_meet; exact rfl)
          case rest =>
            subst hcut
            clear r1 r2 r3 r4 x0 x1
            have hs1 : (Hp.pushM (lt idK) xs ⟨a, b, nx⟩).size ≤ j + 1 := by rw [Hp.pushM_size]; omega
            generalize Hp.pushM (lt idK) xs ⟨a, b, nx⟩ = ys at *
            clear hcl hwc
            have HX1 : Hid (MSx w P C (qq + 1) (j + 1) W4) := Lib.hid ⟨ys, nx + 1, v3, es', clock', HM4.out, by omega, by omega, by omega, hs1⟩
            by_cases hjp : j < n'
            · have hjp' : (j : Int) < (n' : Int) := by omega
              have hjl2 : j < ps.length := by have := HPl.out; omega
              obtain ⟨pb, pof, rfl, hpb, e0, e1, e2⟩ := Bts.at (HBt.out.below HM4.out.bel) j hjl2
              obtain ⟨pv, hpv⟩ : ∃ k, ps[j] = k := ⟨_, rfl⟩
              rw [hpv] at e0 e1 e2
              have u1_ : IntKind.i64.wrap pv = pv := IntWalk.i64_in _ (by omega)
              have htm : pv.tmod 3 = pv % 3 := Int.tmod_eq_emod_of_nonneg e1
              obtain ⟨r, hr⟩ : ∃ r : Nat, pv % 3 = r := ⟨(pv % 3).toNat, by omega⟩
              have hr3 : r < 3 := by omega
              rw [hr] at htm
              have u2_ : IntKind.i64.wrap (r : Int) = (r : Int) := IntWalk.i64_in _ (by omega)
              clear hpv hr HM4 hs1
              go_wp2_with fail
              clear e0 hpb htm u1_ u2_
              go_loopg [55] (r - 0) (fun g iv wq => ∃ (i q : Nat) (wx : World), wx = wq ∧ iv = .int .i64 i ∧ i ≤ r ∧ r ≤ g + i ∧ q ≤ 10 * j + 1 + i ∧ MSx w P C q (j + 1) wx)
              case atStart => exact ⟨0, qq + 1, _, rfl, rfl, Nat.zero_le _, by omega, by omega, HX1.out⟩
              case round =>
                clear HX1
                obtain ⟨i, q, wq, rfl, rfl, hir, hg2, hq, xs2, nx2, v2, es2, clock2, hM, hm0, hm2, hmj, hxj2⟩ := hrel
                have HM := Lib.hid hM
                clear hM
                by_cases hil : i < r
                · have hil' : (i : Int) < (r : Int) := by omega
                  have hwi : IntKind.i64.wrap ((i : Int) + 1) = (i : Int) + 1 := IntWalk.i64_in _ (by omega)
                  by_cases hz : xs2.size = 0
                  · have HZ := Lib.hid hz
                    clear hz
                    go_wp2_with fail
                    refine (pop_empty P 23 v2 xs2 nx2 _ HM.out.hp HZ.out).mono ?_
                    rintro e w5 ⟨rfl, hb5⟩
                    have HM5 := Lib.hid (HM.out.below hb5)
                    clear hb5 HM
                    go_wp2_with fail
                    go_roundg (n - (j + 1))
                    case measure => go_light; omega
                    case rel =>
                      go_light
                      exact ⟨j + 1, q, _, rfl, by go_num, by omega, by omega, by omega, xs2, nx2, v2, es2, clock2, HM5.out.below ((Below.refl _ _).alloc (Nat.le_refl _) _), hm0, hm2, hmj, hxj2⟩
                  · have hz0 : 0 < xs2.size := by omega
                    clear hz
                    obtain ⟨hwf1, hwf2⟩ := wf_pop HM.out.wf hz0
                    go_wp2_with fail
                    refine (pop_some 23 idK byKey_less run23 P v2 xs2 nx2 _ HM.out.hp hz0).mono ?_
                    rintro e w5 ⟨rfl, v5, hH5, hS5⟩
                    have hm5 := map_keep HM.out.mc HM.out.hp hS5
                    have hcl := cf_le xs2 (pair xs2[0]!)
                    have hbd : ∀ o, Below w5.heap.size w5 ((w5.alloc o).drew) := fun o => ((Below.refl _ _).alloc (Nat.le_refl _) _).drew
                    obtain ⟨v0, st, W2, W6, es6, clock6, r1, r2, r3, r4, hM6, hg6⟩ := inc_runs (w := (w5.alloc (.cells #[.int .i64 xs2[0]!.k, .int .i64 xs2[0]!.n] 26)).drew) (hm5.below (hbd _)) (pair xs2[0]!) hwf2 (cf xs2 (pair xs2[0]!) - 1) (wf_small (by omega) (by omega)) (by unfold maxLen; omega)
                    have hM7 := HM.out.popped hz0 hH5 hS5 (hbd _) hg6 hM6
                    have hx6 : W6.heap[w5.heap.size]? = some (.cells #[.int .i64 xs2[0]!.k, .int .i64 xs2[0]!.n] 26 (0, 0)) := by
                      rw [hg6.block w5.heap.size (by simp) (fun e => by have h1 := Option.some.inj e; have h2 := hm5.lt; omega)]
                      exact heap_alloc_new w5 _
                    have hps : (Hp.popM (lt idK) xs2).size ≤ j + 1 := by rw [Hp.popM_size]; omega
                    have hpk := peek_later xs2 HM.out.ord hz0
                    have hnn := (cf_le (Hp.popM (lt idK) xs2) (pair xs2[0]!)).1
                    simp only [pair] at r1 r2 r3 r4 hcl hnn hwf2
                    obtain ⟨c, hc⟩ : ∃ c, cf xs2 (xs2[0]!.k, xs2[0]!.n) = c := ⟨_, rfl⟩
                    rw [hc] at r1 r3 r4 hcl
                    generalize Hp.popM (lt idK) xs2 = ys2 at *
                    obtain ⟨k, hk⟩ : ∃ k, xs2[0]!.k = k := ⟨_, rfl⟩
                    obtain ⟨m, hm⟩ : ∃ k, xs2[0]!.n = k := ⟨_, rfl⟩
                    rw [hk, hm] at hx6 r1 r2 r3 hnn hwf2 ⊢
                    rw [hk] at hpk
                    have x0 : (w5.alloc (.cells #[.int .i64 k, .int .i64 m] 26)).cell? ⟨w5.heap.size, 0, none⟩ = some (.int .i64 k) := cell_of_row _ _ 0 _ _ _ (heap_alloc_new w5 _)
                    have x1 : (w5.alloc (.cells #[.int .i64 k, .int .i64 m] 26)).cell? ⟨w5.heap.size, 1, none⟩ = some (.int .i64 m) := cell_of_row _ _ 1 _ _ _ (heap_alloc_new w5 _)
                    have hwc : IntKind.i64.wrap (c - 1) = c - 1 := IntWalk.i64_in _ (by omega)
                    have HM7 := Lib.hid hM7
                    have HX6 := Lib.hid hx6
                    have HWf2 := Lib.hid hwf2
                    have HPk := Lib.hid hpk
                    have HNn := Lib.hid hnn
                    clear hwf1 hwf2 hH5 hS5 hm5 hbd hM6 hg6 hM7 hx6 hpk hnn hk hm hc HM
                    go_upto_region 17 with fail
                    go_cut [66] (fun _ w' => W6 = w')
                    case first =>
                      generalize w5.heap.size = X at *
                      go_region
                      all_goals (go_wp2_with fail; go_meet; exact rfl)
                    case rest =>
                      subst hcut
                      clear r1 r2 r3 r4 x0 x1
                      have hXl : w5.heap.size < W6.heap.size := (Array.getElem?_eq_some_iff.1 HX6.out).1
                      generalize w5.heap.size = X at *
                      by_cases hz2 : ys2.size = 0
                      · have HZ2 := Lib.hid hz2
                        clear hz2
                        go_wp2_with fail
                        refine (peek_empty P 23 v5 ys2 nx2 _ HM7.out.hp HZ2.out).mono ?_
                        rintro e w7 ⟨rfl, hb7⟩
                        have HM8 := Lib.hid ((HM7.out.below hb7).below ((Below.refl _ _).alloc (Nat.le_refl _) (.cells #[.int .i64 0, .int .i64 0] 26)))
                        have hx7 : w7.heap[X]? = some (.cells #[.int .i64 k, .int .i64 m] 26 (0, 0)) := by rw [hb7.block _ hXl]; exact HX6.out
                        have hx8 : (w7.alloc (.cells #[.int .i64 0, .int .i64 0] 26)).heap[X]? = some (.cells #[.int .i64 k, .int .i64 m] 26 (0, 0)) := by
                          rw [heap_alloc_old _ _ (Array.getElem?_eq_some_iff.1 hx7).1]; exact hx7
                        have x0 : (w7.alloc (.cells #[.int .i64 0, .int .i64 0] 26)).cell? ⟨X, 0, none⟩ = some (.int .i64 k) := cell_of_row _ _ 0 _ _ _ hx8
                        have x1 : (w7.alloc (.cells #[.int .i64 0, .int .i64 0] 26)).cell? ⟨X, 1, none⟩ = some (.int .i64 m) := cell_of_row _ _ 1 _ _ _ hx8
                        have hlk : (Instr.lookup 47 (.map (some C)) (.agg #[.int .i64 k, .int .i64 m]) false).run Try.prog (w7.alloc (.cells #[.int .i64 0, .int .i64 0] 26)) = _ := HM8.out.mc.look (k, m) HWf2.out
                        obtain ⟨c2, hc2⟩ : ∃ c2, cf ys2 (k, m) = c2 := ⟨_, rfl⟩
                        have hnn := HNn.out
                        rw [hc2] at hlk hnn
                        have hnn' : ¬ c2 < 0 := by omega
                        clear hb7 hx7 hx8 hc2 HM7
                        go_wp2_with fail
                        go_roundg (r - (i + 1))
                        case measure => go_light; omega
                        case rel =>
                          go_light
                          exact ⟨i + 1, q + 1, _, rfl, by go_num, by omega, by omega, by omega, ys2, nx2, v5, es6, clock6, HM8.out, hm0, hm2, hmj, hps⟩
                      · have hz3 : 0 < ys2.size := by omega
                        have hpk := HPk.out hz3
                        clear hz2
                        go_wp2_with fail
                        refine (peek_some P 23 v5 ys2 nx2 _ HM7.out.hp hz3).mono ?_
                        rintro e w7 ⟨rfl, hb7⟩
                        obtain ⟨k2, hk2⟩ : ∃ k, ys2[0]!.k = k := ⟨_, rfl⟩
                        obtain ⟨m2, hm22⟩ : ∃ k, ys2[0]!.n = k := ⟨_, rfl⟩
                        rw [hk2] at hpk
                        rw [hk2, hm22]
                        have HM8 := Lib.hid ((HM7.out.below hb7).below ((Below.refl _ _).alloc (Nat.le_refl _) (.cells #[.int .i64 k2, .int .i64 m2] 26)))
                        have hx7 : w7.heap[X]? = some (.cells #[.int .i64 k, .int .i64 m] 26 (0, 0)) := by rw [hb7.block _ hXl]; exact HX6.out
                        have hX7 : X < w7.heap.size := (Array.getElem?_eq_some_iff.1 hx7).1
                        have hx8 : (w7.alloc (.cells #[.int .i64 k2, .int .i64 m2] 26)).heap[X]? = some (.cells #[.int .i64 k, .int .i64 m] 26 (0, 0)) := by
                          rw [heap_alloc_old _ _ hX7]; exact hx7
                        have x0 : (w7.alloc (.cells #[.int .i64 k2, .int .i64 m2] 26)).cell? ⟨X, 0, none⟩ = some (.int .i64 k) := cell_of_row _ _ 0 _ _ _ hx8
                        have x1 : (w7.alloc (.cells #[.int .i64 k2, .int .i64 m2] 26)).cell? ⟨X, 1, none⟩ = some (.int .i64 m) := cell_of_row _ _ 1 _ _ _ hx8
                        have HX8 := Lib.hid hx8
                        have hX8 : X < (w7.alloc (.cells #[.int .i64 k2, .int .i64 m2] 26)).heap.size := (Array.getElem?_eq_some_iff.1 hx8).1
                        have HdK : Hid (decide (k2 < k) = false) := Lib.hid (decide_eq_false (by omega))
                        clear hb7 hx7 hx8 HM7 hk2 hm22 hpk
                        go_wp2_with fail
                        refine (byKey_less k2 m2 k m _).mono ?_
                        rintro e w9 ⟨rfl, hb9⟩
                        rw [HdK.out]
                        have HM9 := Lib.hid (HM8.out.below hb9)
                        have hx9 : w9.heap[X]? = some (.cells #[.int .i64 k, .int .i64 m] 26 (0, 0)) := by rw [hb9.block _ hX8]; exact HX8.out
                        have y0 : w9.cell? ⟨X, 0, none⟩ = some (.int .i64 k) := cell_of_row _ _ 0 _ _ _ hx9
                        have y1 : w9.cell? ⟨X, 1, none⟩ = some (.int .i64 m) := cell_of_row _ _ 1 _ _ _ hx9
                        have hlk : (Instr.lookup 47 (.map (some C)) (.agg #[.int .i64 k, .int .i64 m]) false).run Try.prog w9 = _ := HM9.out.mc.look (k, m) HWf2.out
                        obtain ⟨c2, hc2⟩ : ∃ c2, cf ys2 (k, m) = c2 := ⟨_, rfl⟩
                        have hnn := HNn.out
                        rw [hc2] at hlk hnn
                        have hnn' : ¬ c2 < 0 := by omega
                        clear hb9 hx9 hc2 HM8 x0 x1
                        go_wp2_with fail
                        go_roundg (r - (i + 1))
                        case measure => go_light; omega
                        case rel =>
                          go_light
                          exact ⟨i + 1, q + 1, _, rfl, by go_num, by omega, by omega, by omega, ys2, nx2, v5, es6, clock6, HM9.out, hm0, hm2, hmj, hps⟩
                · obtain rfl : i = r := by omega
                  go_wp2_with fail
                  go_roundg (n - (j + 1))
                  case measure => go_light; omega
                  case rel =>
                    go_light
                    exact ⟨j + 1, q, _, rfl, by go_num, by omega, by omega, by omega, xs2, nx2, v2, es2, clock2, HM.out, hm0, hm2, hmj, hxj2⟩
            · have hjp' : (n' : Int) ≤ (j : Int) := by omega
              go_wp2_with fail
              go_roundg (n - (j + 1))
              case measure => go_light; omega
              case rel => go_light; exact ⟨j + 1, qq + 1, _, rfl, by go_num, by omega, by omega, by omega, HX1.out⟩
        · obtain rfl : j = n := by omega
          have hq9 : qq ≤ 2000 := by omega
          go_wp2_with fail
          refine (popped_any 23 idK byKey_less run23 P v xs nx _ HM.out.hp (by omega)).mono ?_
          rintro e w3 ⟨vo, v3, ys, rfl, hr3, hH3, _, hS3⟩
          have hm3 := map_keep HM.out.mc HM.out.hp hS3
          rw [← cf_drain] at hm3
          have hBel3 := HM.out.bel.trans ((hS3.below HM.out.bel.size HM.out.hP HM.out.own).mono (Nat.le_refl _))
          have hwfD : ∀ x ∈ (Hp.drain (lt idK) xs.size xs).map pair, Wf2 x := fun x hx => by
            obtain ⟨y, hy, rfl⟩ := List.mem_map.1 hx
            exact HM.out.wf y ((Hp.drain_perm (lt := lt idK) xs.size xs rfl).subset hy)
          have hlD : ((Hp.drain (lt idK) xs.size xs).map pair).length ≤ 200 := by simp [Hp.drain_len]; omega
          generalize (Hp.drain (lt idK) xs.size xs).map pair = D at *
          obtain ⟨da, dc, e⟩ := hr3.slice
          subst e
          have hnm : ∀ b off, da = some ⟨b, off, none⟩ → 0 < D.length → b ≠ C := fun b off e h0 => hr3.arr.noMap h0 hm3 b off e
          have HD3 := Lib.hid hr3.arr
          have HM3 := Lib.hid hm3
          have HB3 := Lib.hid hBel3
          have HWD := Lib.hid hwfD
          have HNm := Lib.hid hnm
          have hCw := HM.out.hC
          clear hr3 hH3 hS3 hm3 hBel3 hwfD hnm HM
          go_wp2_with fail
          go_loopg [92] (D.length - 0) (fun g iv wq => ∃ (i q : Nat) (es : Array MapEntry) (clock : Nat) (wx : World), wx = wq ∧ iv = .int .i64 i ∧ i ≤ D.length ∧ D.length ≤ g + i ∧ q ≤ 2000 + i ∧ MapC wx C q (cd (D.drop i)) es clock ∧ Arr2 wx (.slice da D.length dc) D ∧ Below w.heap.size w wx)
          case atStart => exact ⟨0, qq, es, clock, _, rfl, rfl, Nat.zero_le _, by omega, by omega, by rw [List.drop_zero]; exact HM3.out, HD3.out, HB3.out⟩
          case round =>
            clear HM3 HD3 HB3
            obtain ⟨i, q, es2, clock2, wq, rfl, rfl, hiD, hg2, hq2, hM, hA2, hB2⟩ := hrel
            have HA2 := Lib.hid hA2
            have HB2 := Lib.hid hB2
            have HMq := Lib.hid hM
            clear hM hA2 hB2
            by_cases hil : i < D.length
            · have hil' : (i : Int) < (D.length : Int) := by omega
              have hwi : IntKind.i64.wrap ((i : Int) + 1) = (i : Int) + 1 := IntWalk.i64_in _ (by omega)
              obtain ⟨db, dof, hda, hdb, c0, c1⟩ := Arr2.at HA2.out i hil
              have hne : db ≠ C := HNm.out db dof hda (by omega)
              subst hda
              have hwx := HWD.out _ (List.getElem_mem hil)
              have hstep := cd_drop D i hil
              have hcl := cd_le (D.drop i) D[i]
              have hcn := cd_nonneg (D.drop i) D[i]
              have hdl : (D.drop i).length ≤ 200 := by rw [List.length_drop]; omega
              have hbd : ∀ o, Below wq.heap.size wq ((wq.alloc o).drew) := fun o => ((Below.refl _ _).alloc (Nat.le_refl _) _).drew
              obtain ⟨v0, st, W2, W4, es', clock', r1, r2, r3, r4, hM4, hg4⟩ := inc_runs (w := (wq.alloc (.cells #[.int .i64 D[i].1, .int .i64 D[i].2] 26)).drew) (HMq.out.below (hbd _)) D[i] hwx (cd (D.drop i) D[i] - 1) (wf_small (by omega) (by omega)) (by unfold maxLen; omega)
              rw [← hstep] at hM4
              have hA4 := (HA2.out.below (hbd (.cells #[.int .i64 D[i].1, .int .i64 D[i].2] 26))).grown hg4 (fun b off e => by simp only [Option.some.injEq, Addr.mk.injEq] at e; obtain ⟨rfl, rfl, _⟩ := e; exact fun h => hne (Option.some.inj h).symm)
              have hBw := HB2.out.trans ((hbd (.cells #[.int .i64 D[i].1, .int .i64 D[i].2] 26)).mono HB2.out.size)
              have hB4 := hBw.grown hg4 hBw.size (fun k hk => by obtain rfl := Option.some.inj hk; exact hCw)
              have x0 : (wq.alloc (.cells #[.int .i64 D[i].1, .int .i64 D[i].2] 26)).cell? ⟨wq.heap.size, 0, none⟩ = some (.int .i64 D[i].1) := cell_of_row _ _ 0 _ _ _ (heap_alloc_new wq _)
              have x1 : (wq.alloc (.cells #[.int .i64 D[i].1, .int .i64 D[i].2] 26)).cell? ⟨wq.heap.size, 1, none⟩ = some (.int .i64 D[i].2) := cell_of_row _ _ 1 _ _ _ (heap_alloc_new wq _)
              obtain ⟨c, hc⟩ : ∃ c, cd (D.drop i) D[i] = c := ⟨_, rfl⟩
              rw [hc] at r1 r3 r4 hcl hcn
              obtain ⟨k, hk⟩ : ∃ k, D[i].1 = k := ⟨_, rfl⟩
              obtain ⟨m, hm⟩ : ∃ k, D[i].2 = k := ⟨_, rfl⟩
              rw [hk, hm] at x0 x1 r1 r2 r3
              rw [hk] at c0
              rw [hm] at c1
              have hwc : IntKind.i64.wrap (c - 1) = c - 1 := IntWalk.i64_in _ (by omega)
              have HM4 := Lib.hid hM4
              have HA4 := Lib.hid hA4
              have HB4 := Lib.hid hB4
              clear hwx hstep hbd hM4 hg4 hA4 hBw hB4 hc hk hm HMq HA2 HB2 hne
              go_upto_region 26 with fail
              clear c0 c1 hdb
              generalize wq.heap.size = X at *
              go_region
              all_goals
                clear r1 r2 r3 r4 x0 x1
                go_wp2_with fail
                go_roundg (D.length - (i + 1))
                case measure => go_light; omega
                case rel => go_light; exact ⟨i + 1, q + 1, es', clock', _, rfl, by go_num, by omega, by omega, by omega, HM4.out, HA4.out, HB4.out⟩
            · obtain rfl : i = D.length := by omega
              have hM5 := HMq.out
              rw [List.drop_length, cd_nil] at hM5
              obtain ⟨Dm, hown⟩ := hM5.owns
              obtain ⟨w6, hrun, hrg, hg6, _⟩ := hown.range m_keyed Try.underlying47
              have HR6 := Lib.hid hrg
              have HM6 := Lib.hid (hM5.keep (hg6.block C hM5.lt (by simp)))
              have HB6 := Lib.hid (HB2.out.grown hg6 HB2.out.size (fun k hk => by cases hk))
              have hrw : w.heap.size ≤ wq.heap.size := HB2.out.size
              clear hM5 hown hrg hg6 HMq HA2 HB2
              go_wp2_with fail
              clear hrun
              generalize wq.heap.size = R at *
              go_loopg [] (Maps.size Dm) (fun g wr => ∃ (left : Lit → Bool) (cnt : Nat) (wx : World), wx = wr ∧ cnt ≤ g ∧ wx.ranges Try.prog 26 mR C R q Dm left cnt ∧ MapC wx C q (fun _ => 0) es2 clock2 ∧ Below w.heap.size w wx)
              case atStart => exact ⟨_, _, _, rfl, Nat.le_refl _, HR6.out, HM6.out, HB6.out⟩
              case round =>
                clear HR6 HM6 HB6
                obtain ⟨left, cnt, wx, rfl, hcg, hR, hMx, hBx⟩ := hrel
                have HMx := Lib.hid hMx
                have HBx := Lib.hid hBx
                have hRC := hR.ne
                rcases hR.next m_keyed 0 with ⟨_, _, hnx⟩ | ⟨key, vv, kl, y, wy, cnt', hkey, _, hv, hat, hnx, hR2, hlt3, hg7, _, hen⟩
                · clear hMx hBx hR
                  go_wp2_with fail
                  go_ret
                  go_light
                  exact ⟨rfl, HBx.out⟩
                · obtain rfl := range_zero hR hMx hkey hat hv
                  have hMy := hMx.keep (hg7.block C hMx.lt (fun e => hRC (Option.some.inj e).symm))
                  have HR2 := Lib.hid hR2
                  have HMy := Lib.hid hMy
                  have HBy := Lib.hid (hBx.grown hg7 hBx.size (fun k hk => by obtain rfl := Option.some.inj hk; exact hrw))
                  clear hMx hBx hR hkey hv hat hR2 hg7 hMy
                  go_wp2_with fail
                  go_roundg cnt'
                  case measure => go_light; omega
                  case rel => go_light; exact ⟨_, cnt', _, rfl, Nat.le_refl _, HR2.out, HMy.out, HBy.out⟩
end Go.Proofs.Ytjdkaagkaambkaa
