/- The walk of HeapPeeks: for every slice of items it answers true and leaves what was there. -/
import Derived.Test.YtjdkaagkaambkaaS
namespace Go.Proofs.Ytjdkaagkaambkaa
open Go.RowKit Go.Proofs

def TrueEndP (w : World) (e : Ending) (w' : World) : Prop := e = .returned (.bool true) ∧ Below w.heap.size w w'

theorem flat2_set1 (l : List (Int × Int)) (k : Int) : ∀ j (h : j < l.length), (flat2 l).set (j * 2) (.int .i64 k) = flat2 (l.set j (k, l[j].2)) := by
  induction l with
  | nil => intro j h; cases h
  | cons x l ih =>
    intro j h
    cases j with
    | zero => simp [flat2]
    | succ j =>
      have := ih j (by simpa using h)
      simp only [flat2, Nat.succ_mul, List.set_cons_succ, List.getElem_cons_succ]
      simpa using this

theorem own_empty2 {w : World} {B base : Nat} (h : w.heap[B]? = some (.cells #[] 26 (0, 0))) (hB : base ≤ B) : w.ownsRow base 26 2 (.slice (some ⟨B, 0, none⟩) 0 0) 0 [] :=
  ⟨rfl, .inr ⟨B, 0, #[], rfl, hB, h, Nat.le_refl _, Nat.zero_le _, rfl, rfl⟩⟩
theorem flat2_one (l : List (Int × Int)) : ∀ u ∈ flat2 l, u.oneCell' = true := by
  induction l with
  | nil => intro u hu; cases hu
  | cons x l ih =>
    intro u hu
    simp only [flat2, List.mem_cons] at hu
    rcases hu with rfl | rfl | hu
    · rfl
    · rfl
    · exact ih u hu

def PeeksMid (w3 : World) (n : Nat) (D : List (Int × Int)) (t5 : Value) (w' : World) : Prop := ∃ ta tc, t5 = .slice ta n tc ∧ Row2 w3.heap.size w' (.slice ta n tc) D ∧ Below w3.heap.size w3 w'

theorem len_b (p fid : Nat) (v : Value) (xs : Array It) (nx : Int) (n : Int) (w : World) (hH : HeapAt w p fid v xs nx) (hn : (xs.size : Int) = n) :
    Calls Try.prog 30 #[.pointer (some ⟨p, 0, none⟩)] w fun e w' => e = .returned (.int .i64 n) ∧ w = w' := by
  rw [← hn]; exact len_any p fid v xs nx w hH
theorem box_keep {p B : Nat} {W w4 : World} {v v' : Value} {o : Obj} (s : Stp p W v w4 v') (h : W.heap[B]? = some o) (hp : B ≠ p) (hv : v.ownBlock ≠ some B) : w4.heap[B]? = some o := by
  rw [s.block B (Array.getElem?_eq_some_iff.1 h).1 hp (fun e => hv e.symm)]; exact h

/-- The heap and a copy of its values, behind the sorted list was spoilt. -/
def PeeksRel (w : World) (p : Nat) (D : List (Int × Int)) (vt : Value) (jv : Value) (wr : World) : Prop :=
  ∃ (j : Nat) (v' : Value) (ys : Array It) (nx : Int), jv = .int .i64 j ∧ j ≤ D.length ∧ ys.size + j = D.length ∧ HeapAt wr p 23 v' ys nx ∧ Row2 w.heap.size wr vt D ∧ Below w.heap.size w wr ∧ w.heap.size ≤ p ∧ (∀ k, v'.ownBlock = some k → w.heap.size ≤ k) ∧
    D = D.take j ++ (Hp.drain (lt (fun x => x)) ys.size ys).map pair

set_option maxHeartbeats 8000000 in
set_option maxRecDepth 1000000 in
theorem peeks_walk (ao : Option Addr) (n cap : Nat) (l : List (Int × Int)) (w : World) (hA : Arr2 w (.slice ao n cap) l) (hl : l.length = n) (_hnm : n ≤ maxLen) : Calls Try.prog 10 #[.slice ao n cap] w (TrueEndP w) := by
  obtain ⟨j0, hj0, hz0, hz1, hz2⟩ := info_parts Try.info26
  have HL := Lib.hid hl
  have HA := Lib.hid hA
  clear hA hl
  by_cases hbig : 300 < n
  · have hbig' : (300 : Int) < (n : Int) := by omega
    go_enter Try.func10, Try.ntmps10
    go_wp2_with (go_at_call 11; refine (awake_any _).mono ?_; rintro e w1 ⟨rfl, hb1⟩)
    go_ret
    exact ⟨rfl, hb1⟩
  · have hsm : (n : Int) ≤ 300 := by omega
    have hsm' : n ≤ 300 := by omega
    clear hbig
    go_enter Try.func10, Try.ntmps10
    go_wp2_with fail
    refine (awake_any _).mono ?_
    rintro e w1 ⟨rfl, hb1⟩
    have HB1 := Lib.hid hb1
    clear hb1
    go_wp2_with fail
    refine (pushed_any ao n cap l _ (HA.out.below HB1.out) (by omega) HL.out).mono ?_
    rintro e w2 ⟨rfl, v2, hH2, hb2, hV2⟩
    have hsz2 : (build (fun x => x) (its 0 l)).size = n := by rw [build_size, its_len]; exact HL.out
    have HSz2 := Lib.hid hsz2
    have HH2 := Lib.hid hH2
    have HV2 := Lib.hid hV2
    have HB2 := Lib.hid (HB1.out.trans (hb2.mono HB1.out.size))
    have hw12 := HB1.out.size
    have hw2 := HB2.out.size
    clear hH2 hV2 hb2 hsz2
    go_wp2_with fail
    refine (sorted_any 23 (fun x => x) byKey_less run23 _ v2 _ _ _ HH2.out (by have := HSz2.out; omega)).mono ?_
    rintro e w3 ⟨vs, rfl, hrs, hb3⟩
    obtain ⟨D, hD⟩ : ∃ D, D = (Hp.drain (lt (fun x => x)) (build (fun x => x) (its 0 l)).size (build (fun x => x) (its 0 l))).map pair := ⟨_, rfl⟩
    have hDl : D.length = n := by rw [hD, drain_len', HSz2.out]
    rw [← hD] at hrs
    have HD := Lib.hid hD
    have HDl := Lib.hid hDl
    have HH3 := Lib.hid (HH2.out.below hb3)
    have HB3 := Lib.hid (HB2.out.trans (hb3.mono HB2.out.size))
    have HRs := Lib.hid hrs
    have hsb : ∀ k, vs.ownBlock = some k → k < w3.heap.size := fun k hk => (hrs.lt k hk).2
    have hw3 := HB3.out.size
    clear hb3 hDl hD HH2 HB2
    obtain ⟨so, sc, e3⟩ := hrs.slice
    rw [HDl.out] at e3
    subst e3
    clear hrs
    go_upto_region 7 with fail
    go_cut [5] (fun t5 w' => PeeksMid w3 n D t5 w')
    case first =>
      rcases HRs.out.2 with ⟨hvs, hn0⟩ | ⟨g, cap', cur, hvs, _, hgg, _⟩
      · simp only [Value.slice.injEq] at hvs
        obtain ⟨rfl, hn1, rfl⟩ := hvs
        subst hn1
        have HN0 := Lib.hid hn0
        clear hn0
        go_wp2_with (at_builtin; refine wpList_append_own_none rfl _ _ 24 rfl w3.heap.size 26 j0 2 Try.underlying24 hj0 _ 0 [] rfl (own_empty2 (heap_alloc_new w3 _) (Nat.le_refl _)) rfl ?_)
        go_meet
        case rel =>
          go_light
          obtain rfl : D = [] := List.eq_nil_of_length_eq_zero HN0.out
          exact ⟨_, _, rfl, own_empty2 (heap_alloc_new w3 _) (Nat.le_refl _), (Below.refl _ _).alloc (Nat.le_refl _) _⟩
      · simp only [Value.slice.injEq] at hvs
        obtain ⟨rfl, hnD, rfl⟩ := hvs
        clear hnD
        have hgw : g < w3.heap.size := (Array.getElem?_eq_some_iff.1 hgg).1
        clear hgg
        go_wp2_with (at_builtin; refine wpList_append_own _ rfl _ _ 24 rfl w3.heap.size 26 j0 _ 2 16 Try.underlying24 hj0 hz0 hz1 hz2 rfl (by omega) _ 0 [] rfl (own_empty2 (heap_alloc_new w3 _) (Nat.le_refl _)) ⟨g, 0, none⟩ n sc (flat2 D) rfl (by rw [flat2_len, HDl.out]) ((HRs.out.below ((Below.refl _ w3).alloc (Nat.le_refl _) _)).cells rfl) (flat2_one _) (by unfold maxLen; omega) (by omega) (by simp) ?_; intro vt w4 hown4 hgrow4 _)
        go_meet
        case rel =>
          go_light
          simp only [Nat.zero_add, List.nil_append] at hown4
          obtain ⟨ta, tc, rfl⟩ := own_form hown4
          refine ⟨ta, tc, rfl, ?_, ?_⟩
          · unfold Row2; rw [HDl.out]; exact hown4
          · exact ((Below.refl _ w3).alloc (Nat.le_refl _) _).grown hgrow4 (by simp) (by intro k hk; simp [Value.ownBlock, Act.eval] at hk; omega)
    case rest =>
      obtain ⟨ta, tc, rfl, hRt, hb4⟩ := hcut
      have HH4 := Lib.hid (HH3.out.below hb4)
      have HRs4 := Lib.hid (HRs.out.below hb4)
      have HRt := Lib.hid hRt
      have HB4 := Lib.hid (HB3.out.trans (hb4.mono HB3.out.size))
      have hw3c := hb4.size
      have hw23 := hw2
      clear hRt hb4 HH3 HRs HB3
      go_wp2_with fail
      go_loopg [30] (n - 0) (fun g jv wr => ∃ (j : Nat) (l' : List (Int × Int)), jv = .int .i64 j ∧ j ≤ n ∧ n ≤ g + j ∧ l'.length = n ∧ Row2 w2.heap.size wr (.slice so n sc) l' ∧ wc.grownBy wr (Value.slice so n sc).ownBlock)
      case atStart => exact ⟨0, D, rfl, Nat.zero_le _, by omega, HDl.out, HRs4.out, grown_refl _ _⟩
      case round =>
        obtain ⟨j, l', rfl, hjn, hg, hll, hrow, hgr⟩ := hrel
        have HRow := Lib.hid hrow
        have HGr := Lib.hid hgr
        have HLl := Lib.hid hll
        clear hrow hgr hll
        by_cases hlt : j < n
        · have hlt' : (j : Int) < (n : Int) := by omega
          have hjl : j < l'.length := by have := HLl.out; omega
          obtain ⟨g, cap', e1, _, hgw⟩ := HRow.out.form (by omega)
          simp only [Value.slice.injEq] at e1
          obtain ⟨rfl, e2, rfl⟩ := e1
          have hr := HRow.out
          unfold Row2 at hr
          rw [HLl.out] at hr
          have hc := hr.cellAt (j * 2) (by omega)
          rw [(flat2_get l' j hjl).1] at hc
          have hf := hr.frozenAt (j * 2)
          obtain ⟨hst, hgs⟩ := hr.stored (j * 2) (.int .i64 (wrap64 (l'[j].1 + 1)))
          rw [flat2_set1 l' _ j hjl] at hst
          have HSt := Lib.hid hst
          have HGs := Lib.hid hgs
          obtain ⟨k, hk⟩ : ∃ k, l'[j].1 = k := ⟨_, rfl⟩
          rw [hk] at hc HSt HGs
          clear hr hst hgs hk e2
          go_wp2_with fail
          go_roundg (n - (j + 1))
          case measure => go_light; omega
          case rel =>
            go_light
            refine ⟨j + 1, l'.set j (wrap64 (k + 1), l'[j].2), by go_num, by omega, by omega, by rw [List.length_set]; exact HLl.out, ?_, grown_trans HGr.out HGs.out⟩
            unfold Row2
            rw [List.length_set, HLl.out]
            exact HSt.out
        · obtain rfl : j = n := by omega
          have hH5 := HH4.out.keepRow HRs4.out (Below.refl _ _) HGr.out
          have hR5 : Row2 w3.heap.size wr (.slice ta j tc) D := by
            refine World.ownsRow.kept HRt.out HGr.out ?_
            cases hvo : (Value.slice ta j tc).ownBlock with
            | none => exact .inl rfl
            | some k =>
              right
              intro e
              have h1 := HRt.out.blk k hvo
              have h2 := hsb k e.symm
              omega
          have hB5 : Below w.heap.size w wr := HB4.out.grown HGr.out HB4.out.size (fun k hk => by have := HRs4.out.blk k hk; omega)
          have hrel0 : Hid (PeeksRel w w1.heap.size D (.slice ta j tc) (.int .i64 0) wr) := by
            refine Lib.hid ⟨0, v2, _, _, rfl, Nat.zero_le _, ?_, hH5, ?_, hB5, hw12, fun k hk => by have := HV2.out k hk; omega, ?_⟩
            · rw [HSz2.out, HDl.out]; rfl
            · exact World.ownsRow.mono hR5 hw3
            · exact HD.out
          clear hH5 hR5 hB5 HRow HGr HLl HH4 HRs4 HRt HB4 HV2
          go_wp2_with fail
          go_loopg [44] (j - 0) (fun g jv wr => PeeksRel w w1.heap.size D (.slice ta j tc) jv wr ∧ j ≤ g + (intOf jv).toNat)
          case atStart => exact ⟨hrel0.out, by simp [intOf]⟩
          case round =>
            clear hrel0
            obtain ⟨⟨i, v', ys, nx, rfl, hiD, hsz, hHy, hRt, hB, hwp, hv, hdr⟩, hg⟩ := hrel
            simp only [intOf, Int.toNat_natCast] at hg
            have HHy := Lib.hid hHy
            have HRt := Lib.hid hRt
            have HB := Lib.hid hB
            have HV := Lib.hid hv
            have HDr := Lib.hid hdr
            have HSz := Lib.hid hsz
            have hij : i ≤ j := by have := HDl.out; omega
            clear hHy hRt hB hv hdr hsz hiD
            by_cases hlt : i < j
            · have hlt' : (i : Int) < (j : Int) := by omega
              obtain ⟨q, hq⟩ : ∃ q, ys.size = q + 1 := ⟨ys.size - 1, by have := HSz.out; have := HDl.out; omega⟩
              have HQ := Lib.hid hq
              clear hq
              obtain ⟨tb, toff, rfl, htw, t0, t1⟩ := Arr2.at HRt.out.arr i (by have := HDl.out; omega)
              have hDi : D[i]'(by have := HDl.out; omega) = (ys[0]!.k, ys[0]!.n) := by
                have h1 := HDr.out
                rw [HQ.out, drain_succ, List.map_cons] at h1
                have h2 : (D.take i).length = i := by rw [List.length_take]; have := HDl.out; omega
                have h3 : D[i]? = some (pair ys[0]!) := by
                  rw [h1, List.getElem?_append_right (by omega), h2, Nat.sub_self]; rfl
                rw [List.getElem?_eq_getElem (by have := HDl.out; omega)] at h3
                simpa [pair] using h3
              obtain ⟨a, ha⟩ : ∃ a, ys[0]!.k = a := ⟨_, rfl⟩
              obtain ⟨b, hb⟩ : ∃ a, ys[0]!.n = a := ⟨_, rfl⟩
              rw [ha, hb] at hDi
              rw [hDi] at t0 t1
              have HDi := Lib.hid hDi
              have HAa := Lib.hid ha
              have HBb := Lib.hid hb
              have hpl := HHy.out.lt
              have hrl : ∀ k, v'.ownBlock = some k → k < wr.heap.size := fun k hk => (HHy.out.row.lt k hk).2
              have hq9 : (q : Int) ≤ 1000 := by have := HSz.out; have := HQ.out; have := HDl.out; omega
              have hq0 : (0 : Int) ≤ (q : Int) := by omega
              have HRL := Lib.hid hrl
              clear hDi ha hb hrl
              go_wp2_with fail
              have hH1 := HHy.out.below ((Below.refl _ wr).alloc (Nat.le_refl _) (.cells #[.int .i64 a, .int .i64 b] 26))
              have HH1 := Lib.hid hH1
              refine (len_b _ 23 v' ys nx ((q : Int) + 1) _ HH1.out (by have := HQ.out; omega)).mono ?_
              rintro e w5 ⟨rfl, rfl⟩
              clear hH1
              go_wp2_with fail
              refine (peek_some _ 23 v' ys nx _ HH1.out (by have := HQ.out; omega)).mono ?_
              rintro e w5 ⟨rfl, hb5⟩
              rw [HAa.out, HBb.out]
              have hwx : w5.heap[wr.heap.size]? = some (.cells #[.int .i64 a, .int .i64 b] 26 (0, 0)) := by
                rw [hb5.block _ (by simp)]; exact heap_alloc_new wr _
              have hz5 : wr.heap.size < w5.heap.size := by have := hb5.size; simp at this; omega
              have HWx := Lib.hid hwx
              have HH5 := Lib.hid ((HH1.out.below hb5).below ((Below.refl _ w5).alloc (Nat.le_refl _) (.cells #[.int .i64 a, .int .i64 b] 26)))
              have HB5 := Lib.hid (((HB.out.alloc HB.out.size (.cells #[.int .i64 a, .int .i64 b] 26)).trans (hb5.mono (HB.out.alloc HB.out.size _).size)).alloc (by have h1 := HB.out.size; have := hb5.size; simp at this; omega) (.cells #[.int .i64 a, .int .i64 b] 26))
              have HR5 := Lib.hid (((HRt.out.below ((Below.refl _ wr).alloc (Nat.le_refl _) (.cells #[.int .i64 a, .int .i64 b] 26))).below hb5).below ((Below.refl _ w5).alloc (Nat.le_refl _) (.cells #[.int .i64 a, .int .i64 b] 26)))
              clear hb5 hwx HH1
              go_wp2_with fail
              refine (len_b _ 23 v' ys nx ((q : Int) + 1) _ HH5.out (by have := HQ.out; omega)).mono ?_
              rintro e w6 ⟨rfl, rfl⟩
              go_wp2_with fail
              refine (pop_some 23 (fun x => x) byKey_less run23 _ v' ys nx _ HH5.out (by have := HQ.out; omega)).mono ?_
              rintro e w6 ⟨rfl, v6, hH6, hS6⟩
              rw [HAa.out, HBb.out]
              have hx6 : w6.heap[w5.heap.size]? = some (.cells #[.int .i64 a, .int .i64 b] 26 (0, 0)) := box_keep hS6 (heap_alloc_new w5 _) (by omega) (fun e => by have := HRL.out _ e; omega)
              have hw6 : w6.heap[wr.heap.size]? = some (.cells #[.int .i64 a, .int .i64 b] 26 (0, 0)) := box_keep hS6 (by rw [Below.heap_alloc w5 _ _ hz5]; exact HWx.out) (by omega) (fun e => by have := HRL.out _ e; omega)
              have x0 := cell_of_row w6 _ 0 _ _ _ hx6
              have x1 := cell_of_row w6 _ 1 _ _ _ hx6
              have y0 := cell_of_row w6 _ 0 _ _ _ hw6
              have y1 := cell_of_row w6 _ 1 _ _ _ hw6
              simp at x0 x1 y0 y1
              have hz6 : w5.heap.size < w6.heap.size := by have := hS6.size; simp at this; omega
              have hz7 : wr.heap.size < w6.heap.size := by omega
              have HH6 := Lib.hid (hH6.below ((Below.refl _ w6).alloc (Nat.le_refl _) (.cells #[.int .i64 a, .int .i64 b] 26)))
              have HR6 := Lib.hid ((HR5.out.keep HH5.out hS6).below ((Below.refl _ w6).alloc (Nat.le_refl _) (.cells #[.int .i64 a, .int .i64 b] 26)))
              have hB6 := HB5.out.trans (hS6.below HB5.out.size hwp HV.out)
              have HB6 := Lib.hid (hB6.alloc hB6.size (.cells #[.int .i64 a, .int .i64 b] 26))
              have HRow6 := Lib.hid hS6.row
              clear hx6 hw6 hH6 hS6 hB6
              go_wp2_with fail
              have hs6 : ((Hp.popM (lt (fun x => x)) ys).size : Int) = (q : Int) := by rw [Hp.popM_size, HQ.out]; simp
              refine (len_b _ 23 v6 _ nx (q : Int) _ HH6.out hs6).mono ?_
              rintro e w7 ⟨rfl, rfl⟩
              clear hs6
              go_wp2_with fail
              go_roundg (j - (i + 1))
              case measure => go_light; omega
              case rel =>
                go_light
                refine ⟨⟨i + 1, v6, _, nx, by go_num, by have := HDl.out; omega, ?_, HH6.out, HR6.out, HB6.out, hwp, ?_, ?_⟩, by simp [intOf]; omega⟩
                · rw [Hp.popM_size]; have := HSz.out; have := HQ.out; omega
                · intro k hk
                  rcases HRow6.out k hk with h | h
                  · exact HV.out k h
                  · have := HB5.out.size; omega
                · have h1 := HDr.out
                  rw [HQ.out, drain_succ, List.map_cons] at h1
                  have hiD : i < D.length := by have := HDl.out; omega
                  rw [take_snoc D i hiD, Hp.popM_size, HQ.out, Nat.add_sub_cancel, List.append_assoc, HDi.out]
                  rw [← HAa.out, ← HBb.out]
                  exact h1
            · obtain rfl : i = j := by omega
              have hys : ys.size = 0 := by have := HSz.out; have := HDl.out; omega
              have HYs := Lib.hid hys
              clear hys
              go_wp2_with fail
              refine (peek_empty _ 23 v' ys nx _ HHy.out HYs.out).mono ?_
              rintro e w5 ⟨rfl, hb5⟩
              have HH5 := Lib.hid ((HHy.out.below hb5).below ((Below.refl _ w5).alloc (Nat.le_refl _) (.cells #[.int .i64 0, .int .i64 0] 26)))
              have hB5 := HB.out.trans (hb5.mono HB.out.size)
              have HB5 := Lib.hid (hB5.alloc hB5.size (.cells #[.int .i64 0, .int .i64 0] 26))
              clear hb5 hB5
              go_wp2_with fail
              refine (len_b _ 23 v' ys nx 0 _ HH5.out (by rw [HYs.out]; rfl)).mono ?_
              rintro e w6 ⟨rfl, rfl⟩
              go_wp2_with fail
              go_ret
              go_light
              exact ⟨by simp, HB5.out⟩
end Go.Proofs.Ytjdkaagkaambkaa
