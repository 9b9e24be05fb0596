/- The walk of HeapSorts: for every slice of ints it answers true and leaves what was there. -/
import Derived.Test.YtjdkaagkaambkaaH
import Derived.Test.YtjdkaagkaambkaaQ
namespace Go.Proofs.Ytjdkaagkaambkaa
open Go.RowKit Go.Proofs

/-- A slice of ints that reads as l. -/
def Ints (w : World) (v : Value) (l : List Int) : Prop := ∃ ao cap, v = .slice ao l.length cap ∧
  (0 < l.length → ∃ b off, ao = some ⟨b, off, none⟩ ∧ b < w.heap.size ∧ ∀ i (h : i < l.length), w.cell? ⟨b, off + i, none⟩ = some (.int .i64 l[i]))
theorem Ints.below {w w' : World} {v : Value} {l : List Int} (h : Ints w v l) (hb : Below w.heap.size w w') : Ints w' v l := by
  obtain ⟨ao, cap, hv, h⟩ := h
  refine ⟨ao, cap, hv, fun h0 => ?_⟩
  obtain ⟨b, off, ha, hlt, hc⟩ := h h0
  exact ⟨b, off, ha, Nat.lt_of_lt_of_le hlt hb.size, fun i hi => by rw [(bcell hb).1 _ _ hlt]; exact hc i hi⟩
theorem Ints.at {w : World} {ao : Option Addr} {n cap : Nat} {l : List Int} (h : Ints w (.slice ao n cap) l) (j : Nat) (hj : j < l.length) :
    ∃ bb off, ao = some ⟨bb, off, none⟩ ∧ bb < w.heap.size ∧ w.cell? ⟨bb, off + j, none⟩ = some (.int .i64 l[j]) := by
  obtain ⟨ao', cap', e, h⟩ := h
  simp only [Value.slice.injEq] at e
  obtain ⟨rfl, _, _⟩ := e
  obtain ⟨bb, off, h1, h2, h3⟩ := h (by omega)
  exact ⟨bb, off, h1, h2, h3 j hj⟩

/-- Each number with its place. -/
def numd : Nat → List Int → List (Int × Int)
  | _, [] => []
  | s, x :: l => (x, (s : Int)) :: numd (s + 1) l
theorem numd_len (l : List Int) : ∀ s, (numd s l).length = l.length := by
  induction l with
  | nil => intro s; rfl
  | cons x l ih => intro s; simp [numd, ih]
theorem numd_snoc (l : List Int) (x : Int) : ∀ s, numd s (l ++ [x]) = numd s l ++ [(x, (s : Int) + l.length)] := by
  induction l with
  | nil => intro s; simp [numd]
  | cons y l ih =>
    intro s
    simp only [List.cons_append, numd, ih, List.length_cons]
    congr 3
    simp only [Prod.mk.injEq, true_and]
    push_cast
    omega
theorem its_numd (l : List Int) : ∀ s, ∀ x ∈ its s (numd s l), x.n = x.s ∧ ∃ i : Nat, ∃ h : i < l.length, x.k = l[i] ∧ x.s = ((s + i : Nat) : Int) := by
  induction l with
  | nil => intro s x hx; simp [numd, its] at hx
  | cons y l ih =>
    intro s x hx
    simp only [numd, its, List.mem_cons] at hx
    rcases hx with rfl | hx
    · exact ⟨rfl, 0, by simp, by simp⟩
    · obtain ⟨h1, i, hi, h2, h3⟩ := ih (s + 1) x hx
      exact ⟨h1, i + 1, by simpa using hi, by simpa using h2, by rw [h3]; push_cast; omega⟩
theorem numd_get (l : List Int) : ∀ s i (h : i < l.length), (numd s l)[i]'(by rw [numd_len]; exact h) = (l[i], ((s + i : Nat) : Int)) := by
  induction l with
  | nil => intro s i h; cases h
  | cons y l ih =>
    intro s i h
    cases i with
    | zero => simp [numd]
    | succ i =>
      have := ih (s + 1) i (by simpa using h)
      simp only [numd, List.getElem_cons_succ, this]
      congr 2
      omega

/-- What is popped: a list O of as many items; each is the item that was pushed at the place that is its name; a later one is after an earlier one. -/
theorem sorts_law (ks : List Int) (O : List (Int × Int)) (hO : O = (Hp.drain (lt (fun x => x)) (build (fun x => x) (its 0 (numd 0 ks))).size (build (fun x => x) (its 0 (numd 0 ks)))).map pair) :
    O.length = ks.length ∧ ∀ i (h : i < O.length), ∃ m : Nat, ∃ hm : m < ks.length, O[i] = (ks[m], (m : Int)) ∧
      ∀ (i' : Nat) (h' : i' + 1 = i), (O[i']'(by omega)).1 < O[i].1 ∨ (O[i']'(by omega)).1 = O[i].1 ∧ (O[i']'(by omega)).2 < O[i].2 := by
  have hs : (build (fun x => x) (its 0 (numd 0 ks))).size = (its 0 (numd 0 ks)).length := build_size _ _
  rw [hs] at hO
  have hlen : O.length = ks.length := by rw [hO]; simp [Hp.drain_len, its_len, numd_len]
  have hstr := drain_build_strict (fun x => x) (numd 0 ks) 0
  have hper := drain_build_perm (fun x => x) (its 0 (numd 0 ks))
  generalize Hp.drain (lt fun x => x) (its 0 (numd 0 ks)).length (build (fun x => x) (its 0 (numd 0 ks))) = D at hO hstr hper
  subst hO
  refine ⟨hlen, fun i h => ?_⟩
  have hD : i < D.length := by simpa using h
  obtain ⟨hn, m, hm, hk, hsm⟩ := its_numd ks 0 D[i] (hper.mem_iff.1 (List.getElem_mem hD))
  refine ⟨m, hm, by simp [pair, hk, hn, hsm], fun i' h' => ?_⟩
  subst h'
  have hl := (List.pairwise_iff_getElem.1 hstr) i' (i' + 1) (by omega) hD (by omega)
  obtain ⟨hn', _⟩ := its_numd ks 0 D[i'] (hper.mem_iff.1 (List.getElem_mem (by omega)))
  simp [lt] at hl
  simp [pair, hn, hn']
  omega

def SortsRel1 (w : World) (ks : List Int) (vl jv : Value) (wr : World) : Prop :=
  ∃ j : Nat, jv = .int .i64 j ∧ j ≤ ks.length ∧ Below w.heap.size w wr ∧ Row2 w.heap.size wr vl (numd 0 (ks.take j))
def SortsRel2 (w : World) (jv : Value) (wr : World) : Prop := ∃ j : Nat, jv = .int .i64 j ∧ Below w.heap.size w wr
def TrueEnd (w : World) (e : Ending) (w' : World) : Prop := e = .returned (.bool true) ∧ Below w.heap.size w w'

set_option maxHeartbeats 8000000 in
set_option maxRecDepth 1000000 in
theorem sorts_walk (ao : Option Addr) (n cap : Nat) (ks : List Int) (w : World) (hA : Ints w (.slice ao n cap) ks) (hl : ks.length = n) (_hnm : n ≤ maxLen) : Calls Try.prog 3 #[.slice ao n cap] w (TrueEnd w) := by
  obtain ⟨j0, hj0, hz0, hz1, hz2⟩ := info_parts Try.info26
  have HL := Lib.hid hl
  have HA := Lib.hid hA
  clear hA hl
  by_cases hbig : 300 < n
  · have hbig' : (300 : Int) < (n : Int) := by omega
    go_enter Try.func3, Try.ntmps3
    go_wp2_with (go_at_call 11; refine (awake_any _).mono ?_; rintro e w1 ⟨rfl, hb1⟩)
    go_ret
    exact ⟨rfl, hb1⟩
  · have hsm : (n : Int) ≤ 300 := by omega
    have hsm' : n ≤ 300 := by omega
    clear hbig
    go_enter Try.func3, Try.ntmps3
    go_wp2_with (go_at_call 11; refine (awake_any _).mono ?_; rintro e w1 ⟨rfl, hb1⟩)
    have HB1 := Lib.hid hb1
    clear hb1
    go_loopg [3, 15] (n - 0) (fun g vl jv wr => SortsRel1 w ks vl jv wr ∧ n ≤ g + (intOf jv).toNat)
    case atStart => exact ⟨⟨0, rfl, Nat.zero_le _, HB1.out, World.ownsRow_nil _ _ _ _⟩, by simp [intOf]⟩
    case round =>
      clear HB1
      obtain ⟨⟨j, rfl, hjl, hB, hrow⟩, hg⟩ := hrel
      simp only [intOf, Int.toNat_natCast] at hg
      have HB := Lib.hid hB
      have HRow := Lib.hid hrow
      have hjn : j ≤ n := by have := HL.out; omega
      clear hB hrow hjl
      by_cases hlt : j < n
      · have hlt' : (j : Int) < (n : Int) := by omega
        have hjl : j < ks.length := by have := HL.out; omega
        obtain ⟨bb, off, rfl, hbw, hc⟩ := Ints.at (HA.out.below HB.out) j hjl
        have hln : (numd 0 (ks.take j)).length = j := by rw [numd_len, List.length_take]; omega
        have HLn := Lib.hid hln
        clear hln
        go_wp2_with (at_builtin; refine wpList_append_lies _ rfl _ _ 24 rfl w.heap.size 26 j0 _ 2 16 Try.underlying24 hj0 hz0 hz1 hz2 rfl (by omega) u3 (numd 0 (ks.take j)).length (flat2 (numd 0 (ks.take j))) rfl (World.ownsRow.alloc HRow.out _) ⟨wr.heap.size, 0, none⟩ 1 1 [.int .i64 ks[j], .int .i64 j] rfl rfl (news_pair (heap_alloc_new wr _)) (one_pair _ _) (by omega) (by have := HLn.out; unfold maxLen; omega) (by have := HLn.out; omega) (by have := HB.out.size; simp; omega) _ rfl ?_; intro gg cp w2 hown2 hgrow2 hat2 hlt2)
        have HO := Lib.hid hown2
        have HG := Lib.hid hgrow2
        clear hown2 hgrow2 hat2 hlt2
        go_wp2_with fail
        go_roundg (n - (j + 1))
        case measure => omega
        case rel =>
          refine ⟨⟨j + 1, by go_num, by omega, ?_, ?_⟩, by simp [intOf]; omega⟩
          · exact (HB.out.alloc HB.out.size _).grown HG.out (by have := HB.out.size; simp; omega) (fun k hk => HRow.out.blk k hk)
          · unfold Row2
            rw [take_snoc ks j hjl, numd_snoc, flat2_append]
            have e1 : (List.take j ks).length = j := by rw [List.length_take]; omega
            rw [e1]
            simpa [flat2] using HO.out
      · obtain rfl : j = n := by omega
        have e1 : ks.take j = ks := List.take_of_length_le (by have := HL.out; omega)
        rw [e1] at HRow
        have hln : (numd 0 ks).length = j := by rw [numd_len]; exact HL.out
        obtain ⟨lo, lc, e2⟩ := HRow.out.slice
        rw [hln] at e2
        subst e2
        have HLn := Lib.hid hln
        clear hln e1
        go_wp2_with fail
        refine (pushed_any lo j lc (numd 0 ks) _ HRow.out.arr (by omega) HLn.out).mono ?_
        rintro e w2 ⟨rfl, v2, hH2, hB2, hV2⟩
        have HH2 := Lib.hid hH2
        have HB2 := Lib.hid (HB.out.trans (hB2.mono HB.out.size))
        have HR2 := Lib.hid (HRow.out.below hB2)
        have HV2 := Lib.hid hV2
        have hpw := hB2.size
        have hws := HB.out.size
        clear hH2 hB2 hV2 HB HRow
        go_wp2_with fail
        refine (popped_any 23 (fun x => x) byKey_less run23 _ v2 _ _ _ HH2.out ?_).mono ?_
        · rw [build_size, its_len, numd_len, HL.out]; omega
        rintro e w3 ⟨vo, v3, ys, rfl, hr3, hH3, hy0, hS3⟩
        have hB3 : Below w.heap.size w w3 := HB2.out.trans (hS3.below HB2.out.size hws (fun k hk => by have := HV2.out k hk; omega))
        have hl3 := (HR2.out.keep HH2.out hS3).arr
        obtain ⟨O, hO⟩ : ∃ O, O = (Hp.drain (lt (fun x => x)) (build (fun x => x) (its 0 (numd 0 ks))).size (build (fun x => x) (its 0 (numd 0 ks)))).map pair := ⟨_, rfl⟩
        rw [← hO] at hr3
        obtain ⟨hlen, hlaw⟩ := sorts_law ks O hO
        obtain ⟨oo, oc, e3⟩ := hr3.slice
        rw [hlen, HL.out] at e3
        subst e3
        have HO3 := Lib.hid hr3.arr
        have HL3 := Lib.hid hl3
        have HLaw := Lib.hid hlaw
        have HOl := Lib.hid (hlen.trans HL.out)
        have HB3 := Lib.hid hB3
        have hnn : ((j : Int) != (j : Int)) = false := by simp
        clear hr3 hH3 hy0 hS3 hB3 hl3 hlen hlaw hO HH2 HB2 HR2 HV2
        go_wp2_with fail
        go_loopg [37] (j - 0) (fun g iv wr => (∃ i : Nat, iv = .int .i64 i ∧ i ≤ j ∧ Below w3.heap.size w3 wr) ∧ j ≤ g + (intOf iv).toNat)
        case atStart => exact ⟨⟨0, rfl, Nat.zero_le _, Below.refl _ _⟩, by simp [intOf]⟩
        case round =>
          obtain ⟨⟨i, rfl, hij, hW⟩, hg⟩ := hrel
          simp only [intOf, Int.toNat_natCast] at hg
          have HW := Lib.hid hW
          clear hW
          by_cases hlt2 : i < j
          · have hlt2' : (i : Int) < (j : Int) := by omega
            have hiO : i < O.length := by have := HOl.out; omega
            obtain ⟨m, hm, hOi, hprev⟩ := HLaw.out i hiO
            have hmj : m < j := by have := HL.out; omega
            have hmj' : (m : Int) < (j : Int) := by omega
            have hm0 : (0 : Int) ≤ (m : Int) := Int.natCast_nonneg _
            obtain ⟨ob, oof, rfl, h1, c0, c1⟩ := Arr2.at (HO3.out.below HW.out) i hiO
            obtain ⟨lb, lof, rfl, h2, d0, d1⟩ := Arr2.at (HL3.out.below HW.out) m (by rw [numd_len]; exact hm)
            rw [hOi] at c0 c1
            rw [numd_get ks 0 m hm] at d0 d1
            simp only [Nat.zero_add] at d0 d1
            obtain ⟨k, hk⟩ : ∃ k, ks[m] = k := ⟨_, rfl⟩
            rw [hk] at c0 d0
            have C0 := Ext.cell c0
            have C1 := Ext.cell c1
            have D0 := Ext.cell d0
            have D1 := Ext.cell d1
            clear c0 c1 d0 d1
            have z1 : decide ((m : Int) < 0) = false := decide_eq_false (by omega)
            have z2 : decide ((j : Int) ≤ (m : Int)) = false := decide_eq_false (by omega)
            have q0 : (0 : Int) ≤ (i : Int) := Int.natCast_nonneg _
            by_cases hpos : 0 < i
            rotate_left
            · have hf0 : decide ((0 : Int) < (i : Int)) = false := decide_eq_false (by omega)
              clear hOi hprev hk
              go_wp2_with fail
              refine wq_region (by kernel_rfl) (by kernel_rfl) ?_
              repeat (refine Wq.step (fun K hK => ?_); go_simp; first | (refine hK _ ?_; clear hK K) | (refine ⟨_, fun _ => rfl, hK _ ?_⟩; clear hK K))
              refine Wq.nil ?_
              rintro _ ⟨u, rfl⟩
              have HU := Lib.hid (HW.out.trans (u.2.mono HW.out.size))
              have E0 := fun x => Ext.cell (C0 u) x
              have E1 := fun x => Ext.cell (C1 u) x
              clear C0 C1 D0 D1
              go_wp2_with fail
              refine wq_region (by kernel_rfl) (by kernel_rfl) ?_
              repeat (refine Wq.step (fun K hK => ?_); go_simp; first | (refine hK _ ?_; clear hK K) | (refine ⟨_, fun _ => rfl, hK _ ?_⟩; clear hK K))
              refine Wq.nil ?_
              rintro _ ⟨u2, rfl⟩
              have HU2 := Lib.hid (HU.out.trans (u2.2.mono HU.out.size))
              clear HU
              go_wp2_with fail
              go_roundg (j - (i + 1))
              case measure => go_light; omega
              case rel => go_light; exact ⟨⟨i + 1, by go_num, by omega, HU2.out⟩, by simp [intOf]; omega⟩
            · obtain ⟨i', rfl⟩ : ∃ i', i = i' + 1 := ⟨i - 1, by omega⟩
              obtain ⟨q, hq, hOq, _⟩ := HLaw.out i' (by omega)
              have hpr := hprev i' rfl
              have b0 : (0 : Int) ≤ (i' : Int) + 1 := by omega
              have b1 : (i' : Int) + 1 < (j : Int) := by omega
              have b2 : ((i' : Int) + 1).toNat = i' + 1 := by omega
              have b3 : (i' : Int) < (j : Int) := by omega
              have b4 : (0 : Int) < (i' : Int) + 1 := by omega
              have b6 : (0 : Int) ≤ (i' : Int) := by omega
              have b7 : ((i' : Int)).toNat = i' := by omega
              have b5 : IntKind.i64.wrap (i' : Int) = (i' : Int) := IntWalk.i64_in _ (by omega)
              rw [hOi, hOq] at hpr
              simp only at hpr
              obtain ⟨ob', oof', e5, _, p0, p1⟩ := Arr2.at (HO3.out.below HW.out) i' (by omega)
              simp only [Option.some.injEq, Addr.mk.injEq, and_true] at e5
              obtain ⟨rfl, rfl⟩ := e5
              rw [hOq] at p0 p1
              obtain ⟨k', hk'⟩ : ∃ k, ks[q] = k := ⟨_, rfl⟩
              rw [hk'] at p0
              rw [hk, hk'] at hpr
              have P0 := Ext.cell p0
              have P1 := Ext.cell p1
              clear p0 p1 hOi hOq hk hk' hprev
              go_wp2_with fail
              refine wq_region (by kernel_rfl) (by kernel_rfl) ?_
              repeat (refine Wq.step (fun K hK => ?_); go_simp; first | (refine hK _ ?_; clear hK K) | (refine ⟨_, fun _ => rfl, hK _ ?_⟩; clear hK K))
              refine Wq.nil ?_
              rintro _ ⟨u, rfl⟩
              have HU := Lib.hid (HW.out.trans (u.2.mono HW.out.size))
              have E0 := fun x => Ext.cell (C0 u) x
              have E1 := fun x => Ext.cell (C1 u) x
              have F0 := fun x => Ext.cell (P0 u) x
              have F1 := fun x => Ext.cell (P1 u) x
              clear C0 C1 D0 D1 P0 P1
              by_cases hkk : k' < k
              · have t1 : decide (k < k') = false := decide_eq_false (by omega)
                have t2 : (k == k') = false := beq_eq_false_iff_ne.2 (by omega)
                go_wp2_with fail
                refine wq_region (by kernel_rfl) (by kernel_rfl) ?_
                repeat (refine Wq.step (fun K hK => ?_); go_simp; first | (refine hK _ ?_; clear hK K) | (refine ⟨_, fun _ => rfl, hK _ ?_⟩; clear hK K))
                refine Wq.nil ?_
                rintro _ ⟨u2, rfl⟩
                have HU2 := Lib.hid (HU.out.trans (u2.2.mono HU.out.size))
                clear HU
                go_wp2_with fail
                go_roundg (j - (i' + 1 + 1))
                case measure => go_light; omega
                case rel => go_light; exact ⟨⟨i' + 1 + 1, by go_num, by omega, HU2.out⟩, by simp [intOf]; omega⟩
              · obtain rfl : k' = k := by omega
                have hqm : (q : Int) < (m : Int) := by omega
                have t1 : decide (k' < k') = false := decide_eq_false (by omega)
                have t2 : decide ((m : Int) ≤ (q : Int)) = false := decide_eq_false (by omega)
                go_wp2_with fail
                refine wq_region (by kernel_rfl) (by kernel_rfl) ?_
                repeat (refine Wq.step (fun K hK => ?_); go_simp; first | (refine hK _ ?_; clear hK K) | (refine ⟨_, fun _ => rfl, hK _ ?_⟩; clear hK K))
                refine Wq.nil ?_
                rintro _ ⟨u2, rfl⟩
                have HU2 := Lib.hid (HU.out.trans (u2.2.mono HU.out.size))
                clear HU
                go_wp2_with fail
                go_roundg (j - (i' + 1 + 1))
                case measure => go_light; omega
                case rel => go_light; exact ⟨⟨i' + 1 + 1, by go_num, by omega, HU2.out⟩, by simp [intOf]; omega⟩
          · obtain rfl : i = j := by omega
            go_wp2_with fail
            go_ret
            go_light
            exact ⟨rfl, HB3.out.trans (HW.out.mono HB3.out.size)⟩
end Go.Proofs.Ytjdkaagkaambkaa
