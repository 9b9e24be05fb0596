/- The walk of HeapOrders: for every slice of items it answers true and leaves what was there. -/
import Derived.Test.YtjdkaagkaambkaaSortsW
namespace Go.Proofs.Ytjdkaagkaambkaa
open Go.RowKit Go.Proofs

theorem orders_law (K : Int → Int) (ks : List Int) (O : List (Int × Int)) (hO : O = (Hp.drain (lt K) (build K (its 0 (numd 0 ks))).size (build K (its 0 (numd 0 ks)))).map pair) :
    O.length = ks.length ∧ ∀ i' (h : i' + 1 < O.length), K (O[i']'(by omega)).1 < K O[i' + 1].1 ∨ K (O[i']'(by omega)).1 = K O[i' + 1].1 ∧ (O[i']'(by omega)).2 < O[i' + 1].2 := by
  have hs : (build K (its 0 (numd 0 ks))).size = (its 0 (numd 0 ks)).length := build_size _ _
  rw [hs] at hO
  have hlen : O.length = ks.length := by rw [hO]; simp [Hp.drain_len, its_len, numd_len]
  have hstr := drain_build_strict K (numd 0 ks) 0
  have hper := drain_build_perm K (its 0 (numd 0 ks))
  generalize Hp.drain (lt K) (its 0 (numd 0 ks)).length (build K (its 0 (numd 0 ks))) = D at hO hstr hper
  subst hO
  refine ⟨hlen, fun i' h => ?_⟩
  have hD : i' + 1 < D.length := by simpa using h
  obtain ⟨hn, _⟩ := its_numd ks 0 D[i' + 1] (hper.mem_iff.1 (List.getElem_mem hD))
  have hl := (List.pairwise_iff_getElem.1 hstr) i' (i' + 1) (by omega) hD (by omega)
  obtain ⟨hn', _⟩ := its_numd ks 0 D[i'] (hper.mem_iff.1 (List.getElem_mem (by omega)))
  simp [lt] at hl
  simp [pair, hn, hn']
  omega

def OrdersRel1 (w : World) (p : Nat) (ks : List Int) (jv : Value) (wr : World) : Prop :=
  ∃ (j : Nat) (v' : Value), jv = .int .i64 j ∧ j ≤ ks.length ∧ HeapAt wr p 15 v' (build (fun x => -x) (its 0 (numd 0 (ks.take j)))) j ∧ Below w.heap.size w wr ∧ (∀ k, v'.ownBlock = some k → w.heap.size ≤ k)

set_option maxHeartbeats 8000000 in
set_option maxRecDepth 1000000 in
theorem orders_walk (ao : Option Addr) (n cap : Nat) (l : List (Int × Int)) (w : World) (hA : Arr2 w (.slice ao n cap) l) (hl : l.length = n) (_hnm : n ≤ maxLen) : Calls Try.prog 4 #[.slice ao n cap] w (TrueEnd w) := by
  have HL := Lib.hid hl
  have HA := Lib.hid hA
  clear hA hl
  by_cases hbig : 300 < n
  · have hbig' : (300 : Int) < (n : Int) := by omega
    go_enter Try.func4, Try.ntmps4
    go_wp2_with (go_at_call 11; refine (awake_any _).mono ?_; rintro e w1 ⟨rfl, hb1⟩)
    go_ret
    exact ⟨rfl, hb1⟩
  · have hsm : (n : Int) ≤ 300 := by omega
    have hsm' : n ≤ 300 := by omega
    clear hbig
    go_enter Try.func4, Try.ntmps4
    go_wp2_with fail
    refine (awake_any _).mono ?_
    rintro e w1 ⟨rfl, hb1⟩
    have HB1 := Lib.hid hb1
    clear hb1
    go_wp2_with fail
    refine (new_any 15 _).mono ?_
    rintro e w2 ⟨rfl, rfl⟩
    have h0 := Lib.hid (heap_new w1 15)
    go_wp2_with fail
    go_loopg [16] (n - 0) (fun g jv wr => OrdersRel1 w w1.heap.size (l.map (·.1)) jv wr ∧ n ≤ g + (intOf jv).toNat)
    case atStart =>
      exact ⟨⟨0, _, rfl, Nat.zero_le _, by simpa [its, build, numd] using h0.out, HB1.out.alloc HB1.out.size _, by simp [Value.ownBlock]⟩, by simp [intOf]⟩
    case round =>
      clear h0
      obtain ⟨⟨j, v', rfl, hjl, hHy, hB, hv⟩, hg⟩ := hrel
      simp only [intOf, Int.toNat_natCast] at hg
      have HHy := Lib.hid hHy
      have HB := Lib.hid hB
      have HV := Lib.hid hv
      have hjn : j ≤ n := by have := HL.out; simp at hjl; omega
      clear hHy hB hv hjl
      by_cases hlt : j < n
      · have hlt' : (j : Int) < (n : Int) := by omega
        have hjl : j < l.length := by have := HL.out; omega
        obtain ⟨bb, off, rfl, hbw, c0, c1⟩ := Arr2.at (HA.out.below HB.out) j hjl
        obtain ⟨a, ha⟩ : ∃ a, l[j].1 = a := ⟨_, rfl⟩
        obtain ⟨b, hb⟩ : ∃ a, l[j].2 = a := ⟨_, rfl⟩
        rw [ha] at c0
        rw [hb] at c1
        have HAa := Lib.hid ha
        clear ha hb
        go_wp2_with fail
        refine (push_any 15 (fun x => -x) greater_less run15 _ v' (build (fun x => -x) (its 0 (numd 0 ((l.map (·.1)).take j)))) j a j _ (HHy.out.below ((Below.refl _ _).alloc (Nat.le_refl _) _)) ?_ ?_ ?_).mono ?_
        · rw [build_size, its_len, numd_len, List.length_take]; omega
        · omega
        · omega
        rintro e w2 ⟨rfl, v2, hH2, hS2⟩
        have HH2 := Lib.hid hH2
        have HS2 := Lib.hid hS2
        clear hH2 hS2
        go_wp2_with fail
        go_roundg (n - (j + 1))
        case measure => go_light; omega
        case rel =>
          go_light
          have hjm : j < (l.map (·.1)).length := by simpa using hjl
          have hkj : (l.map (·.1))[j] = a := by simp [HAa.out]
          refine ⟨⟨j + 1, v2, by go_num, by omega, ?_, ?_, ?_⟩, by simp [intOf]; omega⟩
          · have := HH2.out
            rw [take_snoc _ j hjm, numd_snoc, its_snoc, build_snoc, hkj, numd_len]
            have e1 : (List.take j (l.map (·.1))).length = j := by rw [List.length_take]; omega
            rw [e1]
            simpa using this
          · have h1 : Below w.heap.size w (wr.alloc (.cells #[.int .i64 a, .int .i64 b] 26)) := HB.out.alloc HB.out.size _
            exact h1.trans (HS2.out.below h1.size HB1.out.size HV.out)
          · intro k hk
            rcases HS2.out.row k hk with h | h
            · exact HV.out k h
            · have := HB.out.size; simp at h; omega
      · obtain rfl : j = n := by omega
        have e1 : (l.map (·.1)).take j = l.map (·.1) := List.take_of_length_le (by have := HL.out; simp; omega)
        rw [e1] at HHy
        go_wp2_with fail
        refine (popped_any 15 (fun x => -x) greater_less run15 _ v' _ _ _ HHy.out ?_).mono ?_
        · rw [build_size, its_len, numd_len]; have := HL.out; simp; omega
        rintro e w3 ⟨vo, v3, ys, rfl, hr3, hH3, hy0, hS3⟩
        have hB3 : Below w.heap.size w w3 := HB.out.trans (hS3.below HB.out.size HB1.out.size HV.out)
        obtain ⟨O, hO⟩ : ∃ O, O = (Hp.drain (lt (fun x => -x)) (build (fun x => -x) (its 0 (numd 0 (l.map (·.1))))).size (build (fun x => -x) (its 0 (numd 0 (l.map (·.1)))))).map pair := ⟨_, rfl⟩
        rw [← hO] at hr3
        obtain ⟨hlen, hlaw⟩ := orders_law (fun x => -x) _ O hO
        obtain ⟨oo, oc, e3⟩ := hr3.slice
        have hlen' : O.length = j := by rw [hlen]; simpa using HL.out
        rw [hlen'] at e3
        subst e3
        have HO3 := Lib.hid hr3.arr
        have HLaw := Lib.hid hlaw
        have HOl := Lib.hid hlen'
        have HB3 := Lib.hid hB3
        have hnn : ((j : Int) == (j : Int)) = true := by simp
        clear hr3 hH3 hy0 hS3 hB3 hlen hlaw hO HHy hlen' e1
        go_wp2_with fail
        go_loopg [7] (j - 0) (fun g iv wr => (∃ i : Nat, iv = .int .i64 ((i : Int) + 1) ∧ i ≤ j ∧ Below w3.heap.size w3 wr ∧ j ≤ g + i))
        case atStart => exact ⟨0, rfl, Nat.zero_le _, Below.refl _ _, by omega⟩
        case round =>
          obtain ⟨i, rfl, hij, hW, hg⟩ := hrel
          have HW := Lib.hid hW
          clear hW
          by_cases hlt2 : i + 1 < j
          · have hlt2' : (i : Int) + 1 < (j : Int) := by omega
            have hlaw1 := HLaw.out i (by have := HOl.out; omega)
            obtain ⟨ob, oof, rfl, h1, c0, c1⟩ := Arr2.at (HO3.out.below HW.out) (i + 1) (by have := HOl.out; omega)
            obtain ⟨ob', oof', e5, _, p0, p1⟩ := Arr2.at (HO3.out.below HW.out) i (by have := HOl.out; omega)
            simp only [Option.some.injEq, Addr.mk.injEq, and_true] at e5
            obtain ⟨rfl, rfl⟩ := e5
            obtain ⟨k, hk⟩ : ∃ k, (O[i + 1]'(by have := HOl.out; omega)).1 = k := ⟨_, rfl⟩
            obtain ⟨m, hm⟩ : ∃ k, (O[i + 1]'(by have := HOl.out; omega)).2 = k := ⟨_, rfl⟩
            obtain ⟨k', hk'⟩ : ∃ k, (O[i]'(by have := HOl.out; omega)).1 = k := ⟨_, rfl⟩
            obtain ⟨q, hq⟩ : ∃ k, (O[i]'(by have := HOl.out; omega)).2 = k := ⟨_, rfl⟩
            rw [hk] at c0
            rw [hm] at c1
            rw [hk'] at p0
            rw [hq] at p1
            rw [hk, hm, hk', hq] at hlaw1
            clear hk hm hk' hq
            have b0 : (0 : Int) ≤ (i : Int) + 1 := by omega
            have b2 : ((i : Int) + 1).toNat = i + 1 := by omega
            have b3 : (i : Int) < (j : Int) := by omega
            have b6 : (0 : Int) ≤ (i : Int) := by omega
            have b5 : IntKind.i64.wrap (i : Int) = (i : Int) := IntWalk.i64_in _ (by omega)
            have C0 := Ext.cell c0
            have C1 := Ext.cell c1
            have P0 := Ext.cell p0
            have P1 := Ext.cell p1
            clear c0 c1 p0 p1
            by_cases hkk : k < k'
            · have t1 : decide (k' < k) = false := decide_eq_false (by omega)
              have t2 : (k == k') = false := beq_eq_false_iff_ne.2 (by omega)
              go_wp2_with fail
              refine wq_region (by kernel_rfl) (by kernel_rfl) ?_
              repeat (refine Wq.step (fun K hK => ?_); go_simp; first | (refine hK _ ?_; clear hK K) | (refine ⟨_, fun _ => rfl, hK _ ?_⟩; clear hK K))
              refine Wq.nil ?_
              rintro _ ⟨u, rfl⟩
              have HU := Lib.hid (HW.out.trans (u.2.mono HW.out.size))
              go_wp2_with fail
              go_roundg (j - (i + 1))
              case measure => go_light; omega
              case rel => go_light; exact ⟨i + 1, by go_num, by omega, HU.out, by omega⟩
            · obtain rfl : k = k' := by omega
              have hqm : q < m := by omega
              have t1 : decide (k < k) = false := decide_eq_false (by omega)
              have t2 : decide (m < q) = false := decide_eq_false (by omega)
              go_wp2_with fail
              refine wq_region (by kernel_rfl) (by kernel_rfl) ?_
              repeat (refine Wq.step (fun K hK => ?_); go_simp; first | (refine hK _ ?_; clear hK K) | (refine ⟨_, fun _ => rfl, hK _ ?_⟩; clear hK K))
              refine Wq.nil ?_
              rintro _ ⟨u, rfl⟩
              have HU := Lib.hid (HW.out.trans (u.2.mono HW.out.size))
              go_wp2_with fail
              go_roundg (j - (i + 1))
              case measure => go_light; omega
              case rel => go_light; exact ⟨i + 1, by go_num, by omega, HU.out, by omega⟩
          · have hge : (j : Int) ≤ (i : Int) + 1 := by omega
            go_wp2_with fail
            go_ret
            go_light
            exact ⟨by simp, HB3.out.trans (HW.out.mono HB3.out.size)⟩
end Go.Proofs.Ytjdkaagkaambkaa
