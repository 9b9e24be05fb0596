/- The walk of HeapRemoves: for every slice of items and every key it answers true and leaves what was there. -/
import Derived.Test.YtjdkaagkaambkaaT
import Derived.Test.YtjdkaagkaambkaaPeeksW
namespace Go.Proofs.Ytjdkaagkaambkaa
open Go.RowKit Go.Proofs
def remM (key : Int) (x : Int × Int) : Bool := decide (key ≤ x.1) && (x.2.tmod 2 == 0)
theorem rem_match (kb : Nat) (key k n : Int) (w : World) (hc : w.cell? ⟨kb, 0, none⟩ = some (.int .i64 key)) (hlt : kb < w.heap.size) :
    Calls Try.prog 35 #[.agg #[.int .i64 k, .int .i64 n], .pointer (some ⟨kb, 0, none⟩)] w fun e w' => e = .returned (.bool (remM key (k, n))) ∧ Below w.heap.size w w' := by
  by_cases h1 : key ≤ k
  · go_enter Try.func35, Try.ntmps35
    go_wp2
    go_ret
    exact ⟨by simp [remM, h1], (Below.refl _ _).alloc (Nat.le_refl _) _⟩
  · have h1' : k < key := by omega
    go_enter Try.func35, Try.ntmps35
    go_wp2
    go_ret
    have h2 : decide (key ≤ k) = false := decide_eq_false (by omega)
    exact ⟨by simp [remM, h2], (Below.refl _ _).alloc (Nat.le_refl _) _⟩
theorem run35 : RunOK 35 := fun args w => by go_simp
theorem remOK (kb : Nat) (key : Int) : MatchOK 35 #[.pointer (some ⟨kb, 0, none⟩)] (remM key) (fun W => W.cell? ⟨kb, 0, none⟩ = some (.int .i64 key)) :=
  ⟨fun k n W h => rem_match kb key k n W h (World.block_lt_of_cell? W _ h), fun _ _ h hb => cell_later hb h, run35⟩

theorem remove_law (M : Int × Int → Bool) (l : List (Int × Int)) (zs : List It) (hz : zs = kept M (build (fun x => x) (its 0 l)).toList) (ys : Array It) (hy : ys = Hp.heapify (lt (fun x => x)) (zs.length / 2) zs.toArray)
    (D : List (Int × Int)) (hD : D = (Hp.drain (lt (fun x => x)) (build (fun x => x) (its 0 l)).size (build (fun x => x) (its 0 l))).map pair) :
    D.length = l.length ∧ ys.size = zs.length ∧ (Hp.drain (lt (fun x => x)) ys.size ys).map pair = D.filter (fun x => !M x) ∧ (D.filter (fun x => !M x)).length = zs.length := by
  have hys : ys.size = zs.length := by rw [hy, Hp.heapify_size]; simp
  have hord : Hp.Ord (lt (fun x => x)) ys := by
    rw [hy]
    refine Hp.heapify_ord (lt_swo _) _ _ ?_
    have := Hp.ordFrom_half (lt := lt (fun x => x)) zs.toArray
    simpa using this
  have hper : ys.toList.Perm zs := by rw [hy]; simpa using Hp.heapify_perm (lt := lt (fun x => x)) (zs.length / 2) zs.toArray
  have hbs : (build (fun x => x) (its 0 l)).size = (its 0 l).length := build_size _ _
  rw [hbs] at hD
  have hstr := drain_build_strict (fun x => x) l 0
  have hdp := drain_build_perm (fun x => x) (its 0 l)
  have hbp := build_perm (fun x => x) (its 0 l)
  generalize Hp.drain (lt fun x => x) (its 0 l).length (build (fun x => x) (its 0 l)) = E at hD hstr hdp
  have hEz : (E.filter fun x => !M (pair x)).Perm zs := by
    rw [hz]
    exact (hdp.trans hbp.symm).filter _
  have hdist : zs.Pairwise (fun a b => a.s ≠ b.s) := by
    refine hEz.pairwise ?_ (fun h => Ne.symm h)
    refine List.Pairwise.filter _ ?_
    exact hdp.symm.pairwise (its_distinct l 0).1 (fun h => Ne.symm h)
  have h1 : Hp.drain (lt (fun x => x)) ys.size ys = E.filter fun x => !M (pair x) := by
    refine Hp.sorted_unique (r := lt (fun x => x)) (lt_swo _).asymm _ _ ?_ ?_ ?_
    · exact ((Hp.drain_perm (lt := lt (fun x => x)) ys.size ys rfl).trans hper).trans hEz.symm
    · refine strict_of _ _ (Hp.drain_sorted (lt_swo _) _ _ rfl hord) ?_
      exact ((Hp.drain_perm (lt := lt (fun x => x)) ys.size ys rfl).trans hper).symm.pairwise hdist (fun h => Ne.symm h)
    · exact List.Pairwise.filter _ hstr
  have h2 : D.filter (fun x => !M x) = (E.filter fun x => !M (pair x)).map pair := by
    rw [hD, List.filter_map]; rfl
  refine ⟨by rw [hD, List.length_map, hdp.length_eq, its_len], hys, by rw [h1, h2], ?_⟩
  rw [h2, List.length_map, hEz.length_eq]

def TrueEndR (w : World) (e : Ending) (w' : World) : Prop := e = .returned (.bool true) ∧ Below w.heap.size w w'

theorem filter_snoc (M : Int × Int → Bool) (D : List (Int × Int)) (j : Nat) (h : j < D.length) (a b : Int) (hd : D[j] = (a, b)) :
    (D.take (j + 1)).filter (fun x => !M x) = (D.take j).filter (fun x => !M x) ++ (if M (a, b) then [] else [(a, b)]) := by
  rw [take_snoc D j h, List.filter_append, hd]
  congr 1
  cases hm : M (a, b) <;> simp [hm]

set_option maxHeartbeats 8000000 in
set_option maxRecDepth 1000000 in
theorem removes_walk (ao : Option Addr) (n cap : Nat) (l : List (Int × Int)) (key : Int) (w : World) (hA : Arr2 w (.slice ao n cap) l) (hl : l.length = n) (_hnm : n ≤ maxLen) (_wk : (Lit.int .i64 key).wf = true) :
    Calls Try.prog 9 #[.slice ao n cap, .int .i64 key] w (TrueEndR w) := by
  obtain ⟨j0, hj0, hz0, hz1, hz2⟩ := info_parts Try.info26
  have HL := Lib.hid hl
  have HA := Lib.hid hA
  clear hA hl
  by_cases hbig : 300 < n
  · have hbig' : (300 : Int) < (n : Int) := by omega
    go_enter Try.func9, Try.ntmps9
    go_wp2_with (go_at_call 11; refine (awake_any _).mono ?_; rintro e w1 ⟨rfl, hb1⟩)
    go_ret
    exact ⟨rfl, ((Below.refl _ _).alloc (Nat.le_refl _) _).trans (hb1.mono (by simp))⟩
  · have hsm : (n : Int) ≤ 300 := by omega
    have hsm' : n ≤ 300 := by omega
    clear hbig
    go_enter Try.func9, Try.ntmps9
    go_wp2_with fail
    refine (awake_any _).mono ?_
    rintro e w1 ⟨rfl, hb1⟩
    have hk1 : w1.heap[w.heap.size]? = some (.cells #[.int .i64 key] 3 (0, 0)) := by rw [hb1.block _ (by simp)]; exact heap_alloc_new w _
    have hB1 : Below w.heap.size w w1 := ((Below.refl _ w).alloc (Nat.le_refl _) (.cells #[.int .i64 key] 3)).trans (hb1.mono (by simp))
    have hw1 : w.heap.size < w1.heap.size := by have := hb1.size; simp at this; omega
    have HK1 := Lib.hid hk1
    have HB1 := Lib.hid hB1
    clear hb1 hk1 hB1
    go_wp2_with fail
    refine (pushed_any ao n cap l _ (HA.out.below HB1.out) (by omega) HL.out).mono ?_
    rintro e w2 ⟨rfl, va, hHa, hb2, hVa⟩
    go_wp2_with fail
    refine (pushed_any ao n cap l _ ((HA.out.below HB1.out).below hb2) (by omega) HL.out).mono ?_
    rintro e w3 ⟨rfl, vb, hHb, hb3, hVb⟩
    have hral : ∀ k, va.ownBlock = some k → k < w2.heap.size := fun k hk => (hHa.row.lt k hk).2
    have hrbl : ∀ k, vb.ownBlock = some k → k < w3.heap.size := fun k hk => (hHb.row.lt k hk).2
    have hpa := hHa.lt
    have hpb := hHb.lt
    have hHa3 := hHa.below hb3
    have hk3 : w3.heap[w.heap.size]? = some (.cells #[.int .i64 key] 3 (0, 0)) := by rw [hb3.block _ (by have := hb2.size; omega), hb2.block _ hw1]; exact HK1.out
    have hG3 : w3.cell? ⟨w.heap.size, 0, none⟩ = some (.int .i64 key) := cell_of_row w3 _ 0 _ _ _ hk3
    have HG3 := Lib.hid hG3
    have HK3 := Lib.hid hk3
    have HHa := Lib.hid hHa3
    have HHb := Lib.hid hHb
    have HVa := Lib.hid hVa
    have HVb := Lib.hid hVb
    have HRal := Lib.hid hral
    have HRbl := Lib.hid hrbl
    have HB3 := Lib.hid ((HB1.out.trans (hb2.mono HB1.out.size)).trans (hb3.mono (HB1.out.trans (hb2.mono HB1.out.size)).size))
    have hs2 := hb2.size
    have hs3 := hb3.size
    have hxs : (build (fun x => x) (its 0 l)).size = n := by rw [build_size, its_len]; exact HL.out
    have HXs := Lib.hid hxs
    clear hHa hb2 hVa hHb hb3 hVb hral hrbl hHa3 hk3 hG3 hxs HK1
    go_wp2_with fail
    refine (remove_any 23 (fun x => x) byKey_less run23 35 _ (remM key) _ (remOK w.heap.size key) w1.heap.size va _ _ _ HHa.out (by have := HXs.out; omega) HG3.out).mono ?_
    rintro e w4 ⟨rfl, v4, hH4, hS4⟩
    obtain ⟨zs, hz⟩ : ∃ zs, zs = kept (remM key) (build (fun x => x) (its 0 l)).toList := ⟨_, rfl⟩
    rw [← hz] at hH4
    rw [← hz]
    obtain ⟨ys, hy⟩ : ∃ ys, ys = Hp.heapify (lt (fun x => x)) (zs.length / 2) zs.toArray := ⟨_, rfl⟩
    rw [← hy] at hH4
    obtain ⟨D, hD⟩ : ∃ D, D = (Hp.drain (lt (fun x => x)) (build (fun x => x) (its 0 l)).size (build (fun x => x) (its 0 l))).map pair := ⟨_, rfl⟩
    obtain ⟨hDl, hyl, hDy, hDf⟩ := remove_law (remM key) l zs hz ys hy D hD
    have hHb4 := HHb.out.apartOf HHa.out hS4 (by omega) (by
      cases hvo : vb.ownBlock with
      | none => exact .inl rfl
      | some k => exact .inr (fun e => by have h1 := HVb.out k hvo; have h2 := HRal.out k e.symm; omega))
    have hk4 : w4.heap[w.heap.size]? = some (.cells #[.int .i64 key] 3 (0, 0)) := box_keep hS4 HK3.out (by omega) (fun e => by have := HVa.out _ e; omega)
    have HH4 := Lib.hid hH4
    have HS4 := Lib.hid hS4.row
    have HHb4 := Lib.hid hHb4
    have HK4 := Lib.hid hk4
    have HB4 := Lib.hid (HB3.out.trans (hS4.below HB3.out.size (by omega) (fun k hk => by have := HVa.out k hk; omega)))
    have hs4 := hS4.size
    have HDl := Lib.hid (hDl.trans HL.out)
    have HYl := Lib.hid hyl
    have HDy := Lib.hid hDy
    have HDf := Lib.hid hDf
    have HD := Lib.hid hD
    have hzn : zs.length ≤ n := by rw [← hDf, ← HL.out, ← hDl]; exact List.length_filter_le _ _
    clear hH4 hS4 hHb4 hk4 hDl hyl hDy hDf hz hy hD HHa HHb HK3 HG3
    go_wp2_with fail
    refine (popped_any 23 (fun x => x) byKey_less run23 w2.heap.size vb _ _ _ HHb4.out (by have := HXs.out; omega)).mono ?_
    rintro e w5 ⟨vo, v5, ys5, rfl, hr5, _, _, hS5⟩
    rw [← HD.out] at hr5
    obtain ⟨oo, oc, e5⟩ := hr5.slice
    rw [HDl.out] at e5
    subst e5
    have hHa5 := HH4.out.apartOf HHb4.out hS5 (by omega) (by
      cases hvo : v4.ownBlock with
      | none => exact .inl rfl
      | some k =>
        refine .inr (fun e => ?_)
        have h1 := HVb.out k e.symm
        have h2 := HRbl.out k e.symm
        rcases HS4.out k hvo with h3 | h3
        · have := HRal.out k h3; omega
        · omega)
    have hk5 : w5.heap[w.heap.size]? = some (.cells #[.int .i64 key] 3 (0, 0)) := box_keep hS5 HK4.out (by omega) (fun e => by have := HVb.out _ e; omega)
    have hG5 : w5.cell? ⟨w.heap.size, 0, none⟩ = some (.int .i64 key) := cell_of_row w5 _ 0 _ _ _ hk5
    have HHa5 := Lib.hid hHa5
    have HG5 := Lib.hid hG5
    have HO5 := Lib.hid hr5.arr
    have HB5 := Lib.hid (HB4.out.trans (hS5.below HB4.out.size (by omega) (fun k hk => by have := HVb.out k hk; omega)))
    have hs5 := hS5.size
    clear hHa5 hr5 hS5 hk5 hG5 HH4 HHb4 HK4 HB4
    go_wp2_with fail
    go_loopg [8, 26] (n - 0) (fun g vr jv wr => ∃ j : Nat, jv = .int .i64 j ∧ j ≤ n ∧ n ≤ g + j ∧ Row2 w5.heap.size wr vr ((D.take j).filter fun x => !remM key x) ∧ Below w5.heap.size w5 wr)
    case atStart => exact ⟨0, rfl, Nat.zero_le _, by omega, World.ownsRow_nil _ _ _ _, Below.refl _ _⟩
    case round =>
      obtain ⟨j, rfl, hjn, hg, hrow, hW⟩ := hrel
      have HRow := Lib.hid hrow
      have HW := Lib.hid hW
      clear hrow hW
      by_cases hlt : j < n
      · have hlt' : (j : Int) < (n : Int) := by omega
        have hjD : j < D.length := by have := HDl.out; omega
        obtain ⟨ob, oof, rfl, _, c0, c1⟩ := Arr2.at (HO5.out.below HW.out) j hjD
        obtain ⟨a, ha⟩ : ∃ a, D[j].1 = a := ⟨_, rfl⟩
        obtain ⟨b, hb⟩ : ∃ a, D[j].2 = a := ⟨_, rfl⟩
        rw [ha] at c0
        rw [hb] at c1
        have hfs := filter_snoc (remM key) D j hjD a b (by rw [← ha, ← hb])
        have HFs := Lib.hid hfs
        have hkk : wr.cell? ⟨w.heap.size, 0, none⟩ = some (.int .i64 key) := cell_later HW.out HG5.out
        have hkw : w.heap.size < wr.heap.size := by have := HW.out.size; omega
        have hlen : ((D.take j).filter fun x => !remM key x).length ≤ j := Nat.le_trans (List.length_filter_le _ _) (List.length_take_le _ _)
        clear ha hb hfs
        by_cases hkey : key ≤ a
        · by_cases hodd : b.tmod 2 = 0
          · have hmm : remM key (a, b) = true := by simp [remM, hkey, hodd]
            have hodd2 : (b.tmod 2 != 0) = false := by simp [hodd]
            have HMm := Lib.hid hmm
            clear hmm hodd
            go_wp2_with fail
            go_roundg (n - (j + 1))
            case measure => go_light; omega
            case rel =>
              go_light
              refine ⟨j + 1, by go_num, by omega, by omega, ?_, HW.out.alloc HW.out.size _⟩
              rw [HFs.out, if_pos HMm.out, List.append_nil]
              exact HRow.out.below ((Below.refl _ _).alloc (Nat.le_refl _) _)
          · have hmm : remM key (a, b) = false := by simp [remM, hodd]
            have hodd2 : (b.tmod 2 != 0) = true := by simpa using hodd
            have HMm := Lib.hid hmm
            clear hmm hodd
            go_wp2_with (at_builtin; refine wpList_append_lies _ rfl _ _ 24 rfl w5.heap.size 26 j0 _ 2 16 Try.underlying24 hj0 hz0 hz1 hz2 rfl (by omega) u8 _ (flat2 ((D.take j).filter fun x => !remM key x)) rfl ((World.ownsRow.alloc HRow.out _).alloc _) ⟨wr.heap.size + 1, 0, none⟩ 1 1 [.int .i64 a, .int .i64 b] rfl rfl (news_pair (alloc2_new wr _ _)) (one_pair _ _) (by omega) (by unfold maxLen; omega) (by omega) (by have := HW.out.size; simp; omega) _ rfl ?_; intro gg cp w6 hown6 hgrow6 hat6 hlt6)
            have HO := Lib.hid hown6
            have HG := Lib.hid hgrow6
            clear hown6 hgrow6 hat6 hlt6
            go_wp2_with fail
            go_roundg (n - (j + 1))
            case measure => go_light; omega
            case rel =>
              go_light
              refine ⟨j + 1, by go_num, by omega, by omega, ?_, (HW.out.trans ((alloc2_below wr _ _).mono HW.out.size)).grown HG.out (by have := HW.out.size; simp; omega) (fun k hk => HRow.out.blk k hk)⟩
              unfold Row2
              rw [HFs.out, if_neg (by rw [HMm.out]; simp), flat2_append, List.length_append]
              simpa [flat2] using HO.out
        · have hkey' : a < key := by omega
          have hmm : remM key (a, b) = false := by have : decide (key ≤ a) = false := decide_eq_false (by omega); simp [remM, this]
          have HMm := Lib.hid hmm
          clear hmm hkey
          go_wp2_with (at_builtin; refine wpList_append_lies _ rfl _ _ 24 rfl w5.heap.size 26 j0 _ 2 16 Try.underlying24 hj0 hz0 hz1 hz2 rfl (by omega) u8 _ (flat2 ((D.take j).filter fun x => !remM key x)) rfl ((World.ownsRow.alloc HRow.out _).alloc _) ⟨wr.heap.size + 1, 0, none⟩ 1 1 [.int .i64 a, .int .i64 b] rfl rfl (news_pair (alloc2_new wr _ _)) (one_pair _ _) (by omega) (by unfold maxLen; omega) (by omega) (by have := HW.out.size; simp; omega) _ rfl ?_; intro gg cp w6 hown6 hgrow6 hat6 hlt6)
          have HO := Lib.hid hown6
          have HG := Lib.hid hgrow6
          clear hown6 hgrow6 hat6 hlt6
          go_wp2_with fail
          go_roundg (n - (j + 1))
          case measure => go_light; omega
          case rel =>
            go_light
            refine ⟨j + 1, by go_num, by omega, by omega, ?_, (HW.out.trans ((alloc2_below wr _ _).mono HW.out.size)).grown HG.out (by have := HW.out.size; simp; omega) (fun k hk => HRow.out.blk k hk)⟩
            unfold Row2
            rw [HFs.out, if_neg (by rw [HMm.out]; simp), flat2_append, List.length_append]
            simpa [flat2] using HO.out
      · obtain rfl : j = n := by omega
        have hrow := HRow.out
        rw [List.take_of_length_le (by have := HDl.out; omega)] at hrow
        obtain ⟨ra, rc, e6⟩ := hrow.slice
        rw [HDf.out] at e6
        subst e6
        have HR6 := Lib.hid hrow
        clear hrow HRow
        have hHa6 := HHa5.out.below HW.out
        have HHa6 := Lib.hid hHa6
        clear hHa6
        obtain ⟨m, hm⟩ : ∃ m, zs.length = m := ⟨_, rfl⟩
        rw [hm] at hzn HYl HDf HR6 ⊢
        rw [HXs.out]
        clear hm
        have t1 : ((j : Int) - (m : Int) == (j : Int) - (m : Int)) = true := by simp
        have t2 : ((m : Int) == (m : Int)) = true := by simp
        have hm9 : (m : Int) ≤ (j : Int) := by omega
        have hm0 : (0 : Int) ≤ (m : Int) := by omega
        go_wp2_with fail
        refine (len_b _ 23 v4 ys _ (m : Int) _ HHa6.out (by rw [HYl.out])).mono ?_
        rintro e w7 ⟨rfl, rfl⟩
        go_wp2_with fail
        refine (popped_any 23 (fun x => x) byKey_less run23 w1.heap.size v4 ys _ _ HHa6.out (by have := HYl.out; omega)).mono ?_
        rintro e w7 ⟨vp, v7, ys7, rfl, hr7, _, _, hS7⟩
        rw [HDy.out] at hr7
        obtain ⟨pa, pc, e7⟩ := hr7.slice
        rw [HDf.out] at e7
        subst e7
        have HR7 := Lib.hid hr7.arr
        have HQ7 := Lib.hid ((HR6.out.keep HHa6.out hS7).arr)
        have hB6 := HB5.out.trans (HW.out.mono HB5.out.size)
        have HB7 := Lib.hid (hB6.trans (hS7.below hB6.size (by omega) (fun k hk => by
          rcases HS4.out k hk with h3 | h3
          · have := HVa.out k h3; omega
          · omega)))
        clear hr7 hS7 hB6
        go_wp2_with fail
        refine (same_any _ _ m _ m _ _ _ _ HR7.out HQ7.out (by omega) HDf.out HDf.out).mono ?_
        rintro e w8 ⟨rfl, hb8⟩
        have HB8 := Lib.hid (HB7.out.trans (hb8.mono HB7.out.size))
        clear hb8
        go_wp2_with fail
        go_ret
        go_light
        exact ⟨by simp, HB8.out⟩
end Go.Proofs.Ytjdkaagkaambkaa
