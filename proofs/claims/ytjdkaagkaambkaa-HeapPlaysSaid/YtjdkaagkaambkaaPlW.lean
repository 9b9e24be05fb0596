/- The walk of HeapPlays: for every list of operations it answers true and leaves what was there. -/
import Derived.Test.YtjdkaagkaambkaaPlA
import Derived.Deep.CutBlock
namespace Go.Proofs.Ytjdkaagkaambkaa
open Go.RowKit Go.Proofs
theorem filter_snoc2 (M : Int × Int → Bool) (D : List (Int × Int)) (j : Nat) (h : j < D.length) (a b : Int) (hd : D[j] = (a, b)) :
    (D.take (j + 1)).filter (fun x => !M x) = (D.take j).filter (fun x => !M x) ++ (if M (a, b) = true then [] else [(a, b)]) := by
  rw [take_snoc D j h, List.filter_append, hd]
  congr 1
  cases hm : M (a, b) <;> simp [hm]

set_option maxHeartbeats 8000000 in
set_option maxRecDepth 1000000 in
theorem plays_walk (ao : Option Addr) (n cap : Nat) (l : List (Int × Int × Int)) (w : World) (hA : Arr3 w (.slice ao n cap) l) (hl : l.length = n) (_hnm : n ≤ maxLen) : Calls Try.prog 7 #[.slice ao n cap] w (TrueEndPl w) := by
  obtain ⟨j0, hj0, hz0, hz1, hz2⟩ := info_parts Try.info26
  have HL := Lib.hid hl
  have HA := Lib.hid hA
  clear hA hl
  by_cases hbig : 100 < n
  · have hbig' : (100 : Int) < (n : Int) := by omega
    go_enter Try.func7, Try.ntmps7
    go_wp2_with (go_at_call 11; refine (awake_any _).mono ?_; rintro e w1 ⟨rfl, hb1⟩)
    go_ret
    exact ⟨rfl, hb1⟩
  · have hsm : (n : Int) ≤ 100 := by omega
    have hsm' : n ≤ 100 := by omega
    clear hbig
    go_enter Try.func7, Try.ntmps7
    go_wp2_with fail
    refine (awake_any _).mono ?_
    rintro e w1 ⟨rfl, hb1⟩
    have HB1 := Lib.hid hb1
    clear hb1
    go_wp2_with fail
    refine (new_any 23 _).mono ?_
    rintro e w2 ⟨rfl, hw2⟩
    have h0 : Hid (PS w w1.heap.size 0 (.slice none 0 0) w2) := Lib.hid (by
      rw [← hw2]
      exact ⟨[], #[], 0, .slice none 0 0, heap_new w1 23, inv_new, Int.le_refl _, Int.le_refl _, Nat.le_refl _, World.ownsRow_nil _ _ _ _, HB1.out.alloc HB1.out.size _, fun k hk => by simp [Value.ownBlock] at hk⟩)
    have hpw := HB1.out.size
    clear hw2
    generalize w1.heap.size = P at *
    go_wp2_with fail
    go_loopg [4, 23] (n - 0) (fun g mv jv wr => ∃ (j : Nat) (wx : World), wx = wr ∧ jv = .int .i64 j ∧ j ≤ n ∧ n ≤ g + j ∧ PS w P j mv wx)
    case atStart => exact ⟨0, _, rfl, rfl, Nat.zero_le _, by omega, h0.out⟩
    case round =>
      clear h0
      obtain ⟨j, wr, rfl, rfl, hjn, hg, m, xs, nx, v, hP⟩ := hrel
      have hms1 : m.length ≤ xs.size := by have := hP.inv.size; omega
      have hms2 : xs.size ≤ m.length := by have := hP.inv.size; omega
      have hxs := hP.sz
      have hnx0 := hP.n0
      have hnx1 := hP.n1
      obtain ⟨mo, mc, hmv⟩ := hP.row.slice
      subst hmv
      have HP := Lib.hid hP
      clear hP
      by_cases hlt : j < n
      · have hlt' : (j : Int) < (n : Int) := by omega
        have hjl : j < l.length := by have := HL.out; omega
        have hwj : IntKind.i64.wrap ((j : Int) + 1) = (j : Int) + 1 := IntWalk.i64_in _ (by omega)
        obtain ⟨lb, lof, rfl, hlb, d0, d1, d2⟩ := Arr3.at (HA.out.below HP.out.bel) j hjl
        obtain ⟨kd, hkd⟩ : ∃ k, l[j].1 = k := ⟨_, rfl⟩
        obtain ⟨ky, hky⟩ : ∃ k, l[j].2.1 = k := ⟨_, rfl⟩
        obtain ⟨nm, hnm⟩ : ∃ k, l[j].2.2 = k := ⟨_, rfl⟩
        rw [hkd] at d0
        rw [hky] at d1
        rw [hnm] at d2
        clear hkd hky hnm
        go_wp2_with fail
        refine (first_any mo m.length mc m _ (HP.out.row.arr.below ((Below.refl _ _).alloc (Nat.le_refl _) _)) rfl (by omega)).mono ?_
        rintro e w3 ⟨rfl, hb3⟩
        have ho : w3.heap[wr.heap.size]? = some (.cells #[.int .i64 kd, .int .i64 ky, .int .i64 nm] 53 (0, 0)) := by
          rw [hb3.block _ (by simp)]; exact heap_alloc_new wr _
        have HP3 := Lib.hid ((HP.out.below ((Below.refl _ _).alloc (Nat.le_refl _) (.cells #[.int .i64 kd, .int .i64 ky, .int .i64 nm] 53))).below hb3)
        have hw3 : wr.heap.size < w3.heap.size := (Array.getElem?_eq_some_iff.1 ho).1
        have hwr := HP.out.bel.size
        have hPl : P < wr.heap.size := HP.out.hp.lt
        have o0 : w3.cell? ⟨wr.heap.size, 0, none⟩ = some (.int .i64 kd) := cell_of_row w3 _ 0 _ _ _ ho
        have o1 : w3.cell? ⟨wr.heap.size, 1, none⟩ = some (.int .i64 ky) := cell_of_row w3 _ 1 _ _ _ ho
        have o2 : w3.cell? ⟨wr.heap.size, 2, none⟩ = some (.int .i64 nm) := cell_of_row w3 _ 2 _ _ _ ho
        have HO := Lib.hid ho
        obtain ⟨A, hA⟩ : ∃ A, frst m = A := ⟨_, rfl⟩
        have HFr := Lib.hid hA
        rw [hA]
        clear hb3 ho hA HP d0 d1 d2 hlb
        generalize wr.heap.size = o at *
        go_upto_block 2 with fail
        go_cut [4, 8, 9, 10, 11, 12, 14] (fun t4 t8 t9 t10 t11 t12 t14 wx => PS w P (j + 1) t4 wx)
        case first =>
          by_cases k1 : kd = 1
          · skip
            subst k1
            go_wp2_with fail
            refine (push_any 23 idK byKey_less run23 P v xs nx ky nm _ HP3.out.hp (by omega) hnx0 (by omega)).mono ?_
            rintro e w4 ⟨rfl, v4, hH4, hS4⟩
            have ho4 := blk_keep HO.out HP3.out.hp hS4 (by decide) (by decide)
            have HR4 := Lib.hid (HP3.out.row.keep HP3.out.hp hS4)
            have p1 : w4.cell? ⟨o, 1, none⟩ = some (.int .i64 ky) := cell_of_row w4 _ 1 _ _ _ ho4
            have p2 : w4.cell? ⟨o, 2, none⟩ = some (.int .i64 nm) := cell_of_row w4 _ 2 _ _ _ ho4
            have HB4 := Lib.hid (HP3.out.bel.trans (hS4.below HP3.out.bel.size hpw HP3.out.own |>.mono (Nat.le_refl _)))
            have HV4 : Hid (∀ k, v4.ownBlock = some k → w.heap.size ≤ k) := Lib.hid fun k hk => by
              rcases hS4.row k hk with h | h
              · exact HP3.out.own k h
              · have := HP3.out.bel.size; omega
            have HH4 := Lib.hid hH4
            clear hS4 hH4 ho4 o0 o1 o2
            go_wp2_with (at_builtin; refine wpList_append_lies _ rfl _ _ 24 rfl w.heap.size 26 j0 _ 2 16 Try.underlying24 hj0 hz0 hz1 hz2 rfl (by omega) (.slice mo m.length mc) _ (flat2 m) rfl (World.ownsRow.alloc HR4.out _) ⟨w4.heap.size, 0, none⟩ 1 1 [.int .i64 ky, .int .i64 nm] rfl rfl (news_pair (heap_alloc_new w4 _)) (one_pair _ _) (by omega) (by unfold maxLen; omega) (by omega) (by have := HB4.out.size; simp; omega) _ rfl ?_; intro gg cp w5 hown5 hgrow5 hat5 hlt5)
            have HO5 := Lib.hid hown5
            have HG5 := Lib.hid hgrow5
            clear hown5 hgrow5 hat5 hlt5
            go_wp2_with fail
            go_meet
            case rel =>
              go_light
              refine ⟨m ++ [(ky, nm)], _, nx + 1, v4, HH4.out.keepRow HR4.out ((Below.refl _ _).alloc (Nat.le_refl _) _) HG5.out, inv_push HP3.out.inv ky nm, by omega, by omega, by rw [Hp.pushM_size]; omega, ?_, (HB4.out.alloc HB4.out.size _).grown HG5.out (by have := HB4.out.size; simp; omega) (fun k hk => HR4.out.blk k hk), HV4.out⟩
              unfold Row2
              rw [flat2_append, List.length_append]
              simpa [flat2] using HO5.out
          by_cases k4 : kd = 4
          · skip
            subst k4
            go_wp2_with fail
            refine (remove_any 23 idK byKey_less run23 28 #[.pointer (some ⟨o, 0, none⟩)] (playM nm) _ (playOK o nm) P v xs nx _ HP3.out.hp (by omega) o2).mono ?_
            rintro e w4 ⟨rfl, v4, hH4, hS4⟩
            obtain ⟨zs, hz⟩ : ∃ zs, zs = kept (playM nm) xs.toList := ⟨_, rfl⟩
            rw [← hz] at hH4 ⊢
            obtain ⟨hzl, hinv⟩ := inv_rem HP3.out.inv (playM nm) zs hz
            have ho4 := blk_keep HO.out HP3.out.hp hS4 (by decide) (by decide)
            have hR4 := HP3.out.row.keep HP3.out.hp hS4
            have hB4 := HP3.out.bel.trans ((hS4.below HP3.out.bel.size hpw HP3.out.own).mono (Nat.le_refl _))
            have hV4 : ∀ k, v4.ownBlock = some k → w.heap.size ≤ k := fun k hk => by
              rcases hS4.row k hk with h | h
              · exact HP3.out.own k h
              · have := HP3.out.bel.size; omega
            have HO4 := Lib.hid ho4
            have HR4 := Lib.hid hR4
            have HB4 := Lib.hid hB4
            have HV4 := Lib.hid hV4
            have HH4 := Lib.hid hH4
            have HZl := Lib.hid hzl
            have HInv := Lib.hid hinv
            have hzm : zs.length ≤ m.length := by rw [hzl]; exact List.length_filter_le _ _
            clear ho4 hR4 hB4 hV4 hH4 hS4 hzl hinv hz o0 o1 o2 HP3 HO
            go_wp2_with fail
            go_loopg [12, 99] (m.length - 0) (fun g vr iv wq => ∃ (i : Nat) (wy : World), wy = wq ∧ iv = .int .i64 i ∧ i ≤ m.length ∧ m.length ≤ g + i ∧ Row2 w4.heap.size wy vr ((m.take i).filter fun x => !playM nm x) ∧ Below w4.heap.size w4 wy)
            case atStart => exact ⟨0, _, rfl, rfl, Nat.zero_le _, by omega, World.ownsRow_nil _ _ _ _, Below.refl _ _⟩
            case round =>
              obtain ⟨i, wq, rfl, rfl, him, hg2, hrow, hW⟩ := hrel
              have HRow := Lib.hid hrow
              have HW := Lib.hid hW
              clear hrow hW
              by_cases hil : i < m.length
              · have hil' : (i : Int) < (m.length : Int) := by omega
                have hwi : IntKind.i64.wrap ((i : Int) + 1) = (i : Int) + 1 := IntWalk.i64_in _ (by omega)
                obtain ⟨mb, mof, rfl, _, c0, c1⟩ := Arr2.at (HR4.out.arr.below HW.out) i hil
                obtain ⟨k, hk⟩ : ∃ k, m[i].1 = k := ⟨_, rfl⟩
                obtain ⟨q, hq⟩ : ∃ k, m[i].2 = k := ⟨_, rfl⟩
                have HFs := Lib.hid (filter_snoc2 (playM nm) m i hil k q (by rw [← hk, ← hq]))
                rw [hk] at c0
                rw [hq] at c1
                have hGo : (wq.alloc (.cells #[.int .i64 k, .int .i64 q] 26)).cell? ⟨o, 2, none⟩ = some (.int .i64 nm) := cell_later (HW.out.alloc HW.out.size _) (cell_of_row w4 _ 2 _ _ _ HO4.out)
                have HGo := Lib.hid hGo
                have hlen : ((m.take i).filter fun x => !playM nm x).length ≤ i := Nat.le_trans (List.length_filter_le _ _) (List.length_take_le _ _)
                clear hk hq hGo
                go_wp2_with fail
                refine (play_match o nm k q _ HGo.out (World.block_lt_of_cell? _ _ HGo.out)).mono ?_
                rintro e w5 ⟨rfl, hb5⟩
                have hx5 : w5.heap[wq.heap.size]? = some (.cells #[.int .i64 k, .int .i64 q] 26 (0, 0)) := by rw [hb5.block _ (by simp)]; exact heap_alloc_new wq _
                have e0 : w5.cell? ⟨wq.heap.size, 0, none⟩ = some (.int .i64 k) := cell_of_row _ _ 0 _ _ _ hx5
                have e1 : w5.cell? ⟨wq.heap.size, 1, none⟩ = some (.int .i64 q) := cell_of_row _ _ 1 _ _ _ hx5
                have HW5 := Lib.hid ((HW.out.alloc HW.out.size (.cells #[.int .i64 k, .int .i64 q] 26)).trans (hb5.mono (HW.out.alloc HW.out.size _).size))
                have HRow5 := Lib.hid ((HRow.out.below ((Below.refl _ _).alloc (Nat.le_refl _) (.cells #[.int .i64 k, .int .i64 q] 26))).below hb5)
                have hwx : wq.heap.size < w5.heap.size := (Array.getElem?_eq_some_iff.1 hx5).1
                obtain ⟨bb, hbb⟩ : ∃ bb, playM nm (k, q) = bb := ⟨_, rfl⟩
                have HBB := Lib.hid hbb
                rw [hbb]
                clear hb5 hx5 hbb c0 c1 HRow HW
                generalize wq.heap.size = X at *
                cases bb with
                | true =>
                  clear e0 e1
                  go_wp2_with fail
                  go_roundg (m.length - (i + 1))
                  case measure => go_light; omega
                  case rel =>
                    go_light
                    refine ⟨i + 1, _, rfl, by go_num, by omega, by omega, ?_, HW5.out⟩
                    rw [HFs.out, if_pos HBB.out, List.append_nil]
                    exact HRow5.out
                | false =>
                  go_wp2_with (at_builtin; refine wpList_append_lies _ rfl _ _ 24 rfl w4.heap.size 26 j0 _ 2 16 Try.underlying24 hj0 hz0 hz1 hz2 rfl (by omega) u12 _ (flat2 ((m.take i).filter fun x => !playM nm x)) rfl (World.ownsRow.alloc HRow5.out _) ⟨w5.heap.size, 0, none⟩ 1 1 [.int .i64 k, .int .i64 q] rfl rfl (news_pair (heap_alloc_new w5 _)) (one_pair _ _) (by omega) (by unfold maxLen; omega) (by omega) (by have := HW5.out.size; simp; omega) _ rfl ?_; intro gg cp w6 hown6 hgrow6 hat6 hlt6)
                  have HO6 := Lib.hid hown6
                  have HG6 := Lib.hid hgrow6
                  clear hown6 hgrow6 hat6 hlt6 e0 e1
                  go_wp2_with fail
                  go_roundg (m.length - (i + 1))
                  case measure => go_light; omega
                  case rel =>
                    go_light
                    refine ⟨i + 1, _, rfl, by go_num, by omega, by omega, ?_, (HW5.out.alloc HW5.out.size _).grown HG6.out (by have := HW5.out.size; simp; omega) (fun k hk => HRow5.out.blk k hk)⟩
                    unfold Row2
                    rw [HFs.out, if_neg (by rw [HBB.out]; simp), flat2_append, List.length_append]
                    simpa [flat2] using HO6.out
              · obtain rfl : i = m.length := by omega
                have hrow := HRow.out
                rw [List.take_length] at hrow
                obtain ⟨ra, rc, hr⟩ := hrow.slice
                rw [← HZl.out] at hr
                subst hr
                have HRowE := Lib.hid hrow
                have eq1 : IntKind.i64.wrap ((m.length : Int) - (zs.length : Int)) = (m.length : Int) - (zs.length : Int) := IntWalk.i64_in _ (by omega)
                rw [(by omega : (xs.size : Int) = (m.length : Int))]
                clear hrow HRow
                go_wp2_with fail
                go_meet
                case rel =>
                  go_light
                  refine ⟨m.filter fun x => !playM nm x, _, nx, v4, HH4.out.below HW.out, HInv.out, hnx0, by omega, ?_, World.ownsRow.mono HRowE.out HB4.out.size, HB4.out.trans (HW.out.mono HB4.out.size), HV4.out⟩
                  rw [Hp.heapify_size]
                  simp
                  omega
          by_cases hxe : xs.size = 0
          · by_cases k2 : kd = 2
            · skip
              subst k2
              obtain rfl : m = [] := List.eq_nil_of_length_eq_zero (by omega)
              obtain rfl : A = -1 := by rw [← HFr.out]; rfl
              go_wp2_with fail
              refine (peek_empty P 23 v xs nx _ HP3.out.hp hxe).mono ?_
              rintro e w4 ⟨rfl, hb4⟩
              have HP4 := Lib.hid (HP3.out.below hb4)
              have ho4 : w4.heap[o]? = some (.cells #[.int .i64 2, .int .i64 ky, .int .i64 nm] 53 (0, 0)) := by rw [hb4.block _ hw3]; exact HO.out
              have hw4 : o < w4.heap.size := Nat.lt_of_lt_of_le hw3 hb4.size
              clear hb4 o0 o1 o2 HP3 HO
              have ho5 : (w4.alloc (.cells #[.int .i64 0, .int .i64 0] 26)).heap[o]? = some (.cells #[.int .i64 2, .int .i64 ky, .int .i64 nm] 53 (0, 0)) := by rw [heap_alloc_old _ _ hw4]; exact ho4
              have o0 : (w4.alloc (.cells #[.int .i64 0, .int .i64 0] 26)).cell? ⟨o, 0, none⟩ = some (.int .i64 2) := cell_of_row _ _ 0 _ _ _ ho5
              have HO5 := Lib.hid ho5
              clear ho4
              go_wp2_with fail
              refine (pop_empty P 23 v xs nx _ (HP4.out.below ((Below.refl _ _).alloc (Nat.le_refl _) _)).hp hxe).mono ?_
              rintro e w5 ⟨rfl, hb5⟩
              have HP5 := Lib.hid ((HP4.out.below ((Below.refl _ _).alloc (Nat.le_refl _) (.cells #[.int .i64 0, .int .i64 0] 26))).below hb5)
              have hx5 : w5.heap[w4.heap.size]? = some (.cells #[.int .i64 0, .int .i64 0] 26 (0, 0)) := by rw [hb5.block _ (by simp)]; exact heap_alloc_new w4 _
              have ho6 : w5.heap[o]? = some (.cells #[.int .i64 2, .int .i64 ky, .int .i64 nm] 53 (0, 0)) := by rw [hb5.block _ (by simp; omega)]; exact HO5.out
              have hX1 : w4.heap.size ≠ P := by have := HP4.out.hp.lt; omega
              have hX2 : v.ownBlock ≠ some w4.heap.size := fun h => by have := (HP4.out.hp.row.lt _ h).2; omega
              have hX3 : (Value.slice mo (List.length ([] : List (Int × Int))) mc).ownBlock ≠ some w4.heap.size := fun h => by have := (HP4.out.row.lt _ h).2; omega
              have hX4 := HP4.out.bel.size
              generalize w4.heap.size = X at *
              clear hb5 o0 HP4 HO5
              have f0 : ∀ q, w5.frozen? ⟨X, q, none⟩ = false := fun q => by simp [World.frozen?, hx5]
              have x0 : w5.cell? ⟨X, 0, none⟩ = some (.int .i64 0) := cell_of_row _ _ 0 _ _ _ hx5
              have x1 : w5.cell? ⟨X, 1, none⟩ = some (.int .i64 0) := cell_of_row _ _ 1 _ _ _ hx5
              have hs6 := set2 (.int .i64 0) (.int .i64 0) hx5
              have HP6 := Lib.hid ((HP5.out.other (grown_set w5 X 0 (.int .i64 0)) hX4 hX1 hX2 hX3).other (grown_set _ X 1 (.int .i64 0)) hX4 hX1 hX2 hX3)
              have ho7 : ((w5.setCell ⟨X, 0, none⟩ (.int .i64 0)).setCell ⟨X, 1, none⟩ (.int .i64 0)).heap[o]? = some (.cells #[.int .i64 2, .int .i64 ky, .int .i64 nm] 53 (0, 0)) := by
                rw [heap_setCell_other _ _ _ _ (by simp only; omega), heap_setCell_other _ _ _ _ (by simp only; omega)]; exact ho6
              have y0 := Ext.cell (cell_of_row _ _ 0 _ _ _ hs6)
              have y1 := Ext.cell (cell_of_row _ _ 1 _ _ _ hs6)
              have z0 : w5.cell? ⟨o, 0, none⟩ = some (.int .i64 2) := cell_of_row _ _ 0 _ _ _ ho6
              have HO6 := Lib.hid ho7
              clear hs6 ho7 ho6 HP5 hx5
              go_wp2_with fail
              refine wq_region (by kernel_rfl) (by kernel_rfl) ?_
              repeat (refine Wq.step (fun K hK => ?_); go_simp; first | (refine hK _ ?_; clear hK K) | (refine ⟨_, fun _ => rfl, hK _ ?_⟩; clear hK K))
              refine Wq.nil ?_
              rintro _ ⟨u, rfl⟩
              go_wp2_with fail
              go_meet
              case rel =>
                go_light
                exact ⟨[], xs, nx, v, (HP6.out.below u.2).more (by omega)⟩
            by_cases k3 : kd = 3
            · skip
              subst k3
              obtain rfl : m = [] := List.eq_nil_of_length_eq_zero (by omega)
              obtain rfl : A = -1 := by rw [← HFr.out]; rfl
              go_wp2_with fail
              refine (peek_empty P 23 v xs nx _ HP3.out.hp hxe).mono ?_
              rintro e w4 ⟨rfl, hb4⟩
              have HP4 := Lib.hid (HP3.out.below hb4)
              have ho4 : w4.heap[o]? = some (.cells #[.int .i64 3, .int .i64 ky, .int .i64 nm] 53 (0, 0)) := by rw [hb4.block _ hw3]; exact HO.out
              have hw4 : o < w4.heap.size := Nat.lt_of_lt_of_le hw3 hb4.size
              clear hb4 o0 o1 o2 HP3 HO
              have hx5 : (w4.alloc (.cells #[.int .i64 0, .int .i64 0] 26)).heap[w4.heap.size]? = some (.cells #[.int .i64 0, .int .i64 0] 26 (0, 0)) := heap_alloc_new w4 _
              have ho5 : (w4.alloc (.cells #[.int .i64 0, .int .i64 0] 26)).heap[o]? = some (.cells #[.int .i64 3, .int .i64 ky, .int .i64 nm] 53 (0, 0)) := by rw [heap_alloc_old _ _ hw4]; exact ho4
              have HP6 := Lib.hid (HP4.out.below ((Below.refl _ _).alloc (Nat.le_refl _) (.cells #[.int .i64 0, .int .i64 0] 26)))
              have o0 : (w4.alloc (.cells #[.int .i64 0, .int .i64 0] 26)).cell? ⟨o, 0, none⟩ = some (.int .i64 3) := cell_of_row _ _ 0 _ _ _ ho5
              have x0 := Ext.cell (cell_of_row _ _ 0 _ _ _ hx5)
              have x1 := Ext.cell (cell_of_row _ _ 1 _ _ _ hx5)
              have HO6 := Lib.hid ho5
              clear ho4 hx5 ho5 HP4
              go_wp2_with fail
              refine wq_region (by kernel_rfl) (by kernel_rfl) ?_
              repeat (refine Wq.step (fun K hK => ?_); go_simp; first | (refine hK _ ?_; clear hK K) | (refine ⟨_, fun _ => rfl, hK _ ?_⟩; clear hK K))
              refine Wq.nil ?_
              rintro _ ⟨u, rfl⟩
              go_wp2_with fail
              go_meet
              case rel =>
                go_light
                exact ⟨[], xs, nx, v, (HP6.out.below u.2).more (by omega)⟩
            · skip
              go_wp2_with fail
              go_meet
              case rel =>
                go_light
                exact ⟨m, xs, nx, v, HP3.out.more (by omega)⟩
          · by_cases k2 : kd = 2
            · skip
              subst k2
              have hx0 : 0 < xs.size := by omega
              obtain ⟨fr0, fr1⟩ := frst_some m (by omega)
              rw [HFr.out] at fr0 fr1
              obtain ⟨a, rfl⟩ : ∃ a : Nat, A = a := ⟨A.toNat, (Int.toNat_of_nonneg fr0).symm⟩
              have hal : a < m.length := by omega
              obtain ⟨hd1, hd2⟩ := inv_head HP3.out.inv hx0
              rw [HFr.out, Int.toNat_natCast] at hd1 hd2
              obtain ⟨k, hk⟩ : ∃ k, xs[0]!.k = k := ⟨_, rfl⟩
              obtain ⟨q, hq⟩ : ∃ k, xs[0]!.n = k := ⟨_, rfl⟩
              have hma : m[a] = (k, q) := by
                have e : m[a]! = m[a] := by rw [List.getElem!_eq_getElem?_getD, List.getElem?_eq_getElem hal]; rfl
                rw [← e, ← hd1, pair, hk, hq]
              have HK := Lib.hid hk
              have HQ := Lib.hid hq
              have HMa := Lib.hid hma
              have HD2 := Lib.hid hd2
              have q1 : decide ((0 : Int) ≤ (a : Int)) = true := decide_eq_true (by omega)
              have q2 : (0 : Int) ≤ (a : Int) := by omega
              have q3 : (a : Int) < (m.length : Int) := by omega
              clear hk hq hma hd1 hd2 fr0 fr1
              go_wp2_with fail
              refine (peek_some P 23 v xs nx _ HP3.out.hp hx0).mono ?_
              rintro e w4 ⟨rfl, hb4⟩
              rw [HK.out, HQ.out]
              have HP4 := Lib.hid (HP3.out.below hb4)
              have ho4 : w4.heap[o]? = some (.cells #[.int .i64 2, .int .i64 ky, .int .i64 nm] 53 (0, 0)) := by rw [hb4.block _ hw3]; exact HO.out
              have hw4 : o < w4.heap.size := Nat.lt_of_lt_of_le hw3 hb4.size
              clear hb4 o0 o1 o2 HP3 HO
              have ho5 : (w4.alloc (.cells #[.int .i64 k, .int .i64 q] 26)).heap[o]? = some (.cells #[.int .i64 2, .int .i64 ky, .int .i64 nm] 53 (0, 0)) := by rw [heap_alloc_old _ _ hw4]; exact ho4
              have o0 : (w4.alloc (.cells #[.int .i64 k, .int .i64 q] 26)).cell? ⟨o, 0, none⟩ = some (.int .i64 2) := cell_of_row _ _ 0 _ _ _ ho5
              have HO5 := Lib.hid ho5
              clear ho4 ho5
              go_wp2_with fail
              refine (pop_some 23 idK byKey_less run23 P v xs nx _ (HP4.out.below ((Below.refl _ _).alloc (Nat.le_refl _) _)).hp hx0).mono ?_
              rintro e w5 ⟨rfl, v5, hH5, hS5⟩
              rw [HK.out, HQ.out]
              have hPa := HP4.out.below ((Below.refl _ _).alloc (Nat.le_refl _) (.cells #[.int .i64 k, .int .i64 q] 26))
              have hx5 : w5.heap[w4.heap.size]? = some (.cells #[.int .i64 k, .int .i64 q] 26 (0, 0)) := blk_keep (heap_alloc_new w4 _) hPa.hp hS5 (by decide) (by decide)
              have ho6 : w5.heap[o]? = some (.cells #[.int .i64 2, .int .i64 ky, .int .i64 nm] 53 (0, 0)) := blk_keep HO5.out hPa.hp hS5 (by decide) (by decide)
              have hR5 : Row2 w.heap.size w5 (.slice mo m.length mc) m := hPa.row.keep hPa.hp hS5
              have hV5 : ∀ k, v5.ownBlock = some k → w.heap.size ≤ k := fun k hk => by
                rcases hS5.row k hk with h | h
                · exact HP4.out.own k h
                · have := hPa.bel.size; omega
              have hX1 : w4.heap.size ≠ P := by have := HP4.out.hp.lt; omega
              have hX2 : v5.ownBlock ≠ some w4.heap.size := fun h => by
                rcases hS5.row _ h with h | h
                · have := (HP4.out.hp.row.lt _ h).2; omega
                · simp at h; omega
              have hX3 : (Value.slice mo m.length mc).ownBlock ≠ some w4.heap.size := fun h => by have := (HP4.out.row.lt _ h).2; omega
              have hX4 := HP4.out.bel.size
              have hP5 : PState w P j (.slice mo m.length mc) w5 (m.eraseIdx a) (Hp.popM (lt idK) xs) nx v5 ∨ True := .inr trivial
              have HB5 := Lib.hid (hPa.bel.trans ((hS5.below hPa.bel.size hpw hPa.own).mono (Nat.le_refl _)))
              have HH5 := Lib.hid hH5
              have HR5 := Lib.hid hR5
              have HV5 := Lib.hid hV5
              clear hP5 hPa hH5 hS5 hR5 hV5 o0 HO5 HP4
              generalize w4.heap.size = X at *
              have f0 : ∀ q, w5.frozen? ⟨X, q, none⟩ = false := fun q => by simp [World.frozen?, hx5]
              have x0 : w5.cell? ⟨X, 0, none⟩ = some (.int .i64 k) := cell_of_row _ _ 0 _ _ _ hx5
              have x1 : w5.cell? ⟨X, 1, none⟩ = some (.int .i64 q) := cell_of_row _ _ 1 _ _ _ hx5
              have hs6 := set2 (.int .i64 k) (.int .i64 q) hx5
              have hg6 : w5.grownBy ((w5.setCell ⟨X, 0, none⟩ (.int .i64 k)).setCell ⟨X, 1, none⟩ (.int .i64 q)) (some X) := grown_trans (grown_set w5 X 0 _) (grown_set _ X 1 _)
              have ho7 : ((w5.setCell ⟨X, 0, none⟩ (.int .i64 k)).setCell ⟨X, 1, none⟩ (.int .i64 q)).heap[o]? = some (.cells #[.int .i64 2, .int .i64 ky, .int .i64 nm] 53 (0, 0)) := by
                rw [heap_setCell_other _ _ _ _ (by simp only; omega), heap_setCell_other _ _ _ _ (by simp only; omega)]; exact ho6
              have HR6 := Lib.hid (show Row2 w.heap.size ((w5.setCell ⟨X, 0, none⟩ (.int .i64 k)).setCell ⟨X, 1, none⟩ (.int .i64 q)) (.slice mo m.length mc) m from World.ownsRow.kept HR5.out hg6 (.inr hX3))
              have HH6 : Hid (HeapAt ((w5.setCell ⟨X, 0, none⟩ (.int .i64 k)).setCell ⟨X, 1, none⟩ (.int .i64 q)) P 23 v5 (Hp.popM (lt idK) xs) nx) := Lib.hid ⟨by rw [hg6.block P HH5.out.lt (fun e => hX1 (Option.some.inj e).symm)]; exact HH5.out.st, HH5.out.row.kept hg6 (.inr hX2), HH5.out.small⟩
              have HB6 := Lib.hid (HB5.out.grown hg6 HB5.out.size (fun k hk => by obtain rfl := Option.some.inj hk; exact hX4))
              have y0 := Ext.cell (cell_of_row _ _ 0 _ _ _ hs6)
              have y1 := Ext.cell (cell_of_row _ _ 1 _ _ _ hs6)
              have z0 : w5.cell? ⟨o, 0, none⟩ = some (.int .i64 2) := cell_of_row _ _ 0 _ _ _ ho6
              have t0 := Ext.cell (cell_of_row _ _ 0 _ _ _ ho7)
              obtain ⟨mb, mof, rfl, _, m0, m1⟩ := Arr2.at HR6.out.arr a hal
              rw [HMa.out] at m0 m1
              have M0 := Ext.cell m0
              have M1 := Ext.cell m1
              clear hs6 ho7 ho6 hx5 hg6 HH5 HR5 HB5 m0 m1
              go_wp2_with fail
              refine wq_region (by kernel_rfl) (by kernel_rfl) ?_
              repeat (refine Wq.step (fun K hK => ?_); go_simp; first | (refine hK _ ?_; clear hK K) | (refine ⟨_, fun _ => rfl, hK _ ?_⟩; clear hK K))
              refine Wq.nil ?_
              rintro _ ⟨u, rfl⟩
              have t1 := t0 u
              have HR7 := Lib.hid (HR6.out.below u.2)
              have HH7 := Lib.hid (HH6.out.below u.2)
              have HB7 := Lib.hid (HB6.out.trans (u.2.mono HB6.out.size))
              clear t0 y0 y1 M0 M1 HR6 HH6 HB6
              go_wp2_with fail
              refine (without_any (some ⟨mb, mof, none⟩) m.length mc m a _ HR7.out.arr rfl (by omega) (by omega)).mono ?_
              rintro e w8 ⟨vn, rfl, hrn, hb8⟩
              have HRn := Lib.hid hrn
              have HB8 := Lib.hid hb8
              clear hrn hb8
              go_wp2_with fail
              go_meet
              case rel =>
                go_light
                exact ⟨m.eraseIdx a, _, nx, v5, HH7.out.below HB8.out, HD2.out, hnx0, by omega, by rw [Hp.popM_size]; omega, World.ownsRow.mono HRn.out HB7.out.size, HB7.out.trans (HB8.out.mono HB7.out.size), HV5.out⟩
            by_cases k3 : kd = 3
            · skip
              subst k3
              have hx0 : 0 < xs.size := by omega
              obtain ⟨fr0, fr1⟩ := frst_some m (by omega)
              rw [HFr.out] at fr0 fr1
              obtain ⟨a, rfl⟩ : ∃ a : Nat, A = a := ⟨A.toNat, (Int.toNat_of_nonneg fr0).symm⟩
              have hal : a < m.length := by omega
              obtain ⟨hd1, hd2⟩ := inv_head HP3.out.inv hx0
              rw [HFr.out, Int.toNat_natCast] at hd1 hd2
              obtain ⟨k, hk⟩ : ∃ k, xs[0]!.k = k := ⟨_, rfl⟩
              obtain ⟨q, hq⟩ : ∃ k, xs[0]!.n = k := ⟨_, rfl⟩
              have hma : m[a] = (k, q) := by
                have e : m[a]! = m[a] := by rw [List.getElem!_eq_getElem?_getD, List.getElem?_eq_getElem hal]; rfl
                rw [← e, ← hd1, pair, hk, hq]
              have HK := Lib.hid hk
              have HQ := Lib.hid hq
              have HMa := Lib.hid hma
              have HD2 := Lib.hid hd2
              have q1 : decide ((0 : Int) ≤ (a : Int)) = true := decide_eq_true (by omega)
              have q2 : (0 : Int) ≤ (a : Int) := by omega
              have q3 : (a : Int) < (m.length : Int) := by omega
              clear hk hq hma hd1 hd2 fr0 fr1
              go_wp2_with fail
              refine (peek_some P 23 v xs nx _ HP3.out.hp hx0).mono ?_
              rintro e w4 ⟨rfl, hb4⟩
              rw [HK.out, HQ.out]
              have HP4 := Lib.hid (HP3.out.below hb4)
              have ho4 : w4.heap[o]? = some (.cells #[.int .i64 3, .int .i64 ky, .int .i64 nm] 53 (0, 0)) := by rw [hb4.block _ hw3]; exact HO.out
              have hw4 : o < w4.heap.size := Nat.lt_of_lt_of_le hw3 hb4.size
              clear hb4 o0 o1 o2 HP3 HO
              have ho5 : (w4.alloc (.cells #[.int .i64 k, .int .i64 q] 26)).heap[o]? = some (.cells #[.int .i64 3, .int .i64 ky, .int .i64 nm] 53 (0, 0)) := by rw [heap_alloc_old _ _ hw4]; exact ho4
              have o0 : (w4.alloc (.cells #[.int .i64 k, .int .i64 q] 26)).cell? ⟨o, 0, none⟩ = some (.int .i64 3) := cell_of_row _ _ 0 _ _ _ ho5
              have HO5 := Lib.hid ho5
              clear ho4 ho5
              have HP6 := Lib.hid (HP4.out.below ((Below.refl _ _).alloc (Nat.le_refl _) (.cells #[.int .i64 k, .int .i64 q] 26)))
              have hx5 : (w4.alloc (.cells #[.int .i64 k, .int .i64 q] 26)).heap[w4.heap.size]? = some (.cells #[.int .i64 k, .int .i64 q] 26 (0, 0)) := heap_alloc_new w4 _
              have y0 := Ext.cell (cell_of_row _ _ 0 _ _ _ hx5)
              have y1 := Ext.cell (cell_of_row _ _ 1 _ _ _ hx5)
              have t0 := Ext.cell (cell_of_row _ _ 0 _ _ _ HO5.out)
              obtain ⟨mb, mof, rfl, _, m0, m1⟩ := Arr2.at HP6.out.row.arr a hal
              rw [HMa.out] at m0 m1
              have M0 := Ext.cell m0
              have M1 := Ext.cell m1
              clear hx5 HP4 HO5 m0 m1
              go_wp2_with fail
              refine wq_region (by kernel_rfl) (by kernel_rfl) ?_
              repeat (refine Wq.step (fun K hK => ?_); go_simp; first | (refine hK _ ?_; clear hK K) | (refine ⟨_, fun _ => rfl, hK _ ?_⟩; clear hK K))
              refine Wq.nil ?_
              rintro _ ⟨u, rfl⟩
              have t1 := t0 u
              go_wp2_with fail
              go_meet
              case rel =>
                go_light
                exact ⟨m, xs, nx, v, (HP6.out.below u.2).more (by omega)⟩
            · skip
              go_wp2_with fail
              go_meet
              case rel =>
                go_light
                exact ⟨m, xs, nx, v, HP3.out.more (by omega)⟩
        case rest =>
          clear HP3 HO o0 o1 o2 HFr hms1 hms2 hxs hnx0 hnx1 hw3
          obtain ⟨m', xs', nx', v', hP'⟩ := hcut
          obtain ⟨mo', mc', e⟩ := hP'.row.slice
          subst e
          have hma' : m'.length ≤ xs'.size := by have := hP'.inv.size; omega
          have hmb' : xs'.size ≤ m'.length := by have := hP'.inv.size; omega
          have hxs' := hP'.sz
          have HP' := Lib.hid hP'
          clear hP'
          go_wp2_with fail
          refine (len_any P 23 v' xs' nx' _ HP'.out.hp).mono ?_
          rintro e w5 ⟨rfl, rfl⟩
          rw [(by omega : xs'.size = m'.length)]
          go_wp2_with fail
          refine (sorted_any 23 idK byKey_less run23 P v' xs' nx' _ HP'.out.hp (by omega)).mono ?_
          rintro e w6 ⟨vs, rfl, hr6, hb6⟩
          have HP6 := Lib.hid (HP'.out.below hb6)
          rw [inv_srt xs'.size m' xs' nx' HP'.out.inv rfl] at hr6
          obtain ⟨sa, sc, e⟩ := hr6.slice
          rw [srt_len] at e
          subst e
          have HR6 := Lib.hid hr6.arr
          clear hb6 hr6 HP'
          go_wp2_with fail
          refine (rsorted_any mo' m'.length mc' m' _ HP6.out.row.arr rfl (by omega)).mono ?_
          rintro e w7 ⟨vt, rfl, hr7, hb7⟩
          have HP7 := Lib.hid (HP6.out.below hb7)
          have HR67 := Lib.hid (HR6.out.below hb7)
          obtain ⟨ta, tc, e⟩ := hr7.slice
          rw [srt_len] at e
          subst e
          have HR7 := Lib.hid hr7.arr
          clear hb7 hr7 HP6 HR6
          have HSl := Lib.hid (srt_len xs'.size m')
          have HTl := Lib.hid (srt_len m'.length m')
          have HEq : Hid (decide (srt xs'.size m' = srt m'.length m') = true) := Lib.hid (decide_eq_true (by rw [(by omega : xs'.size = m'.length)]))
          go_wp2_with fail
          refine (same_any sa ta xs'.size sc m'.length tc _ _ _ HR67.out HR7.out (by omega) HSl.out HTl.out).mono ?_
          rintro e w8 ⟨rfl, hb8⟩
          rw [HEq.out]
          have HP8 := Lib.hid (HP7.out.below hb8)
          clear hb8 HP7 HR67 HR7
          go_wp2_with fail
          go_roundg (n - (j + 1))
          case measure => go_light; omega
          case rel =>
            go_light
            exact ⟨j + 1, _, rfl, by go_num, by omega, by omega, m', xs', nx', v', HP8.out⟩
      · obtain rfl : j = n := by omega
        go_wp2_with fail
        refine (popped_any 23 idK byKey_less run23 P v xs nx _ HP.out.hp (by omega)).mono ?_
        rintro e w3 ⟨vo, v3, ys, rfl, hr3, hH3, _, hS3⟩
        rw [inv_srt xs.size m xs nx HP.out.inv rfl] at hr3
        have hR3 := HP.out.row.keep HP.out.hp hS3
        have HB3 := Lib.hid (HP.out.bel.trans ((hS3.below HP.out.bel.size hpw HP.out.own).mono (Nat.le_refl _)))
        obtain ⟨sa, sc, e⟩ := hr3.slice
        rw [srt_len] at e
        subst e
        have HR3 := Lib.hid hr3.arr
        have HM3 := Lib.hid hR3.arr
        clear hr3 hH3 hS3 hR3 HP
        go_wp2_with fail
        refine (rsorted_any mo m.length mc m _ HM3.out rfl (by omega)).mono ?_
        rintro e w4 ⟨vt, rfl, hr4, hb4⟩
        have HR4 := Lib.hid (HR3.out.below hb4)
        have HB4 := Lib.hid (HB3.out.trans (hb4.mono HB3.out.size))
        obtain ⟨ta, tc, e⟩ := hr4.slice
        rw [srt_len] at e
        subst e
        have HT4 := Lib.hid hr4.arr
        clear hr4 hb4 HR3 HM3 HB3
        have HSl := Lib.hid (srt_len xs.size m)
        have HTl := Lib.hid (srt_len m.length m)
        have HEq : Hid (decide (srt xs.size m = srt m.length m) = true) := Lib.hid (decide_eq_true (by rw [(by omega : xs.size = m.length)]))
        go_wp2_with fail
        refine (same_any sa ta xs.size sc m.length tc _ _ _ HR4.out HT4.out (by omega) HSl.out HTl.out).mono ?_
        rintro e w5 ⟨rfl, hb5⟩
        rw [HEq.out]
        have HB5 := Lib.hid (HB4.out.trans (hb5.mono HB4.out.size))
        clear hb5
        go_wp2_with fail
        go_ret
        go_light
        exact ⟨rfl, HB5.out⟩
end Go.Proofs.Ytjdkaagkaambkaa
