/- The reference: First, Without, Sorted. -/
import Derived.Test.YtjdkaagkaambkaaL
import Derived.Test.YtjdkaagkaambkaaG
import Derived.Test.YtjdkaagkaambkaaQ
namespace Go.Proofs.Ytjdkaagkaambkaa
open Go.RowKit Go.Proofs

def FirstEnd (w : World) (x : Int) (e : Ending) (w' : World) : Prop := e = .returned (.int .i64 x) ∧ Below w.heap.size w w'

set_option maxHeartbeats 2000000 in
set_option maxRecDepth 1000000 in
theorem first_any (ao : Option Addr) (n cap : Nat) (l : List (Int × Int)) (w : World) (hA : Arr2 w (.slice ao n cap) l) (hl : l.length = n) (hn : n ≤ 1000) :
    Calls Try.prog 26 #[.slice ao n cap] w (FirstEnd w (frst l)) := by
  have HA := Lib.hid hA
  have HL := Lib.hid hl
  clear hA hl
  go_enter Try.func26, Try.ntmps26
  go_wp2_with fail
  go_loopg [3, 4] (n - 0) (fun g av jv wr => ∃ (j : Nat) (wx : World), wx = wr ∧ av = .int .i64 (fst1 l j) ∧ jv = .int .i64 j ∧ j ≤ n ∧ n ≤ g + j ∧ Below w.heap.size w wx)
  case atStart => exact ⟨0, _, rfl, rfl, rfl, Nat.zero_le _, by omega, Below.refl _ _⟩
  case round =>
    obtain ⟨j, wr, rfl, rfl, rfl, hjn, hg, hW⟩ := hrel
    have HW := Lib.hid hW
    clear hW
    by_cases hlt : j < n
    · have hlt' : (j : Int) < (n : Int) := by omega
      have hjl : j < l.length := by have := HL.out; omega
      have rg := fst1_range l j
      obtain ⟨bb, off, rfl, _, c0, _⟩ := Arr2.at (HA.out.below HW.out) j hjl
      have ej : l[j]!.1 = l[j].1 := by rw [List.getElem!_eq_getElem?_getD, List.getElem?_eq_getElem hjl]; rfl
      obtain ⟨k, hk⟩ : ∃ k, l[j].1 = k := ⟨_, rfl⟩
      rw [hk] at c0 ej
      clear hk
      have C0 := Ext.cell c0
      clear c0
      have hwj : IntKind.i64.wrap ((j : Int) + 1) = (j : Int) + 1 := IntWalk.i64_in _ (by omega)
      by_cases hneg : fst1 l j < 0
      · have hnx : fst1 l (j + 1) = j := by rw [fst1, if_pos (.inl hneg)]
        have HN := Lib.hid hnx
        clear ej
        generalize fst1 l j = A at *
        have q1 : decide (A < 0) = true := decide_eq_true hneg
        clear hnx hneg rg
        go_wp2_with fail
        refine wq_region (by kernel_rfl) (by kernel_rfl) ?_
        repeat (refine Wq.step (fun K hK => ?_); go_simp; first | (refine hK _ ?_; clear hK K) | (refine ⟨_, fun _ => rfl, hK _ ?_⟩; clear hK K))
        refine Wq.nil ?_
        rintro _ ⟨u, rfl⟩
        have HU := Lib.hid (HW.out.trans (u.2.mono HW.out.size))
        clear C0
        go_wp2_with fail
        go_roundg (n - (j + 1))
        case measure => go_light; omega
        case rel => go_light; exact ⟨j + 1, _, rfl, by rw [HN.out], by go_num, by omega, by omega, HU.out⟩
      · obtain ⟨a, ha⟩ : ∃ a : Nat, fst1 l j = a := ⟨(fst1 l j).toNat, (Int.toNat_of_nonneg (by omega)).symm⟩
        have hnx : fst1 l (j + 1) = if k < l[a]!.1 then (j : Int) else a := by
          rw [fst1]
          by_cases h : k < l[a]!.1
          · rw [if_pos h, if_pos (.inr (by rw [ha, Int.toNat_natCast, ej]; exact h))]
          · rw [if_neg h, if_neg (by rw [ha, Int.toNat_natCast, ej]; omega), ha]
        rw [ha] at rg ⊢
        clear ej
        have hal : a < l.length := by omega
        obtain ⟨bb', off', e5, _, d0, _⟩ := Arr2.at (HA.out.below HW.out) a hal
        simp only [Option.some.injEq, Addr.mk.injEq, and_true] at e5
        obtain ⟨rfl, rfl⟩ := e5
        have ea : l[a]!.1 = l[a].1 := by rw [List.getElem!_eq_getElem?_getD, List.getElem?_eq_getElem hal]; rfl
        obtain ⟨k', hk'⟩ : ∃ k, l[a].1 = k := ⟨_, rfl⟩
        rw [hk'] at d0 ea
        have hnx2 : k < k' → fst1 l (j + 1) = j := fun h => by rw [hnx, if_pos (by rw [ea]; exact h)]
        have hnx3 : ¬ k < k' → fst1 l (j + 1) = a := fun h => by rw [hnx, if_neg (by rw [ea]; exact h)]
        clear ea hnx
        have D0 := Ext.cell d0
        have q1 : decide ((a : Int) < 0) = false := decide_eq_false (by omega)
        have q2 : (0 : Int) ≤ (a : Int) := by omega
        have q3 : (a : Int) < (n : Int) := by omega
        have q4 : (0 : Int) ≤ (j : Int) := by omega
        clear d0 hk' ha hneg
        by_cases hkk : k < k'
        · have HN := Lib.hid (hnx2 hkk)
          clear hnx2 hnx3
          have t1 : decide (k < k') = true := decide_eq_true hkk
          clear rg hkk
          go_wp2_with fail
          refine wq_region (by kernel_rfl) (by kernel_rfl) ?_
          repeat (refine Wq.step (fun K hK => ?_); go_simp; first | (refine hK _ ?_; clear hK K) | (refine ⟨_, fun _ => rfl, hK _ ?_⟩; clear hK K))
          refine Wq.nil ?_
          rintro _ ⟨u, rfl⟩
          have HU := Lib.hid (HW.out.trans (u.2.mono HW.out.size))
          clear C0 D0
          go_wp2_with fail
          go_roundg (n - (j + 1))
          case measure => go_light; omega
          case rel => go_light; exact ⟨j + 1, _, rfl, by rw [HN.out], by go_num, by omega, by omega, HU.out⟩
        · have HN := Lib.hid (hnx3 hkk)
          clear hnx2 hnx3
          have t1 : decide (k < k') = false := decide_eq_false hkk
          clear rg hkk
          go_wp2_with fail
          refine wq_region (by kernel_rfl) (by kernel_rfl) ?_
          repeat (refine Wq.step (fun K hK => ?_); go_simp; first | (refine hK _ ?_; clear hK K) | (refine ⟨_, fun _ => rfl, hK _ ?_⟩; clear hK K))
          refine Wq.nil ?_
          rintro _ ⟨u, rfl⟩
          have HU := Lib.hid (HW.out.trans (u.2.mono HW.out.size))
          clear C0 D0
          go_wp2_with fail
          go_roundg (n - (j + 1))
          case measure => go_light; omega
          case rel => go_light; exact ⟨j + 1, _, rfl, by rw [HN.out], by go_num, by omega, by omega, HU.out⟩
    · obtain rfl : j = n := by omega
      go_wp2_with fail
      go_ret
      go_light
      exact ⟨by rw [frst, HL.out] <;> rfl, HW.out⟩

theorem take_erase (l : List (Int × Int)) (a j : Nat) (h : j < l.length) : (l.take (j + 1)).eraseIdx a = if j = a then (l.take j).eraseIdx a else (l.take j).eraseIdx a ++ [l[j]] := by
  have hlen : (l.take j).length = j := by rw [List.length_take]; omega
  rw [List.take_succ_eq_append_getElem h]
  by_cases hja : j = a
  · subst hja
    rw [if_pos rfl, List.eraseIdx_append_of_length_le (by omega), hlen, Nat.sub_self, List.eraseIdx_of_length_le (l := l.take j) (by omega)]
    simp
  · rw [if_neg hja]
    by_cases hlt : a < j
    · rw [List.eraseIdx_append_of_lt_length (by omega)]
    · rw [List.eraseIdx_of_length_le (by simp; omega), List.eraseIdx_of_length_le (by omega)]

def WithEnd (w : World) (l : List (Int × Int)) (a : Nat) (e : Ending) (w' : World) : Prop := ∃ vo, e = .returned vo ∧ Row2 w.heap.size w' vo (l.eraseIdx a) ∧ Below w.heap.size w w'

set_option maxHeartbeats 2000000 in
set_option maxRecDepth 1000000 in
theorem without_any (ao : Option Addr) (n cap : Nat) (l : List (Int × Int)) (a : Nat) (w : World) (hA : Arr2 w (.slice ao n cap) l) (hl : l.length = n) (hn : n ≤ 1000) (ha : a ≤ 1000) :
    Calls Try.prog 27 #[.slice ao n cap, .int .i64 a] w (WithEnd w l a) := by
  obtain ⟨j0, hj0, hz0, hz1, hz2⟩ := info_parts Try.info26
  have HA := Lib.hid hA
  have HL := Lib.hid hl
  clear hA hl
  go_enter Try.func27, Try.ntmps27
  go_wp2_with fail
  go_loopg [5, 6] (n - 0) (fun g vo jv wr => ∃ (j : Nat) (wx : World), wx = wr ∧ jv = .int .i64 j ∧ j ≤ n ∧ n ≤ g + j ∧ Row2 w.heap.size wx vo ((l.take j).eraseIdx a) ∧ Below w.heap.size w wx)
  case atStart => exact ⟨0, _, rfl, rfl, Nat.zero_le _, by omega, World.ownsRow_nil _ _ _ _, Below.refl _ _⟩
  case round =>
    obtain ⟨j, wr, rfl, rfl, hjn, hg, hR, hW⟩ := hrel
    have HR := Lib.hid hR
    have HW := Lib.hid hW
    clear hR hW
    by_cases hlt : j < n
    · have hlt' : (j : Int) < (n : Int) := by omega
      have hjl : j < l.length := by have := HL.out; omega
      have hwj : IntKind.i64.wrap ((j : Int) + 1) = (j : Int) + 1 := IntWalk.i64_in _ (by omega)
      have HT := Lib.hid (take_erase l a j hjl)
      by_cases hja : j = a
      · subst hja
        go_wp2_with fail
        go_roundg (n - (j + 1))
        case measure => go_light; omega
        case rel => go_light; exact ⟨j + 1, _, rfl, by go_num, by omega, by omega, by rw [HT.out, if_pos trivial]; exact HR.out, HW.out⟩
      · have hja' : ¬ (j : Int) = (a : Int) := by omega
        have hjb : ((j : Int) == (a : Int)) = false := by simpa using hja'
        obtain ⟨bb, off, rfl, _, c0, c1⟩ := Arr2.at (HA.out.below HW.out) j hjl
        obtain ⟨k, hk⟩ : ∃ k, l[j].1 = k := ⟨_, rfl⟩
        obtain ⟨m, hm⟩ : ∃ k, l[j].2 = k := ⟨_, rfl⟩
        have HK : Hid (l[j] = (k, m)) := Lib.hid (Prod.ext hk hm)
        rw [hk] at c0
        rw [hm] at c1
        have hel : ((l.take j).eraseIdx a).length ≤ j := Nat.le_trans (List.length_eraseIdx_le _ _) (List.length_take_le _ _)
        have HJA := Lib.hid hja
        clear hk hm hja
        go_wp2_with (at_builtin; refine wpList_append_lies _ rfl _ _ 24 rfl w.heap.size 26 j0 _ 2 16 Try.underlying24 hj0 hz0 hz1 hz2 rfl (by omega) u5 _ (flat2 ((l.take j).eraseIdx a)) rfl (World.ownsRow.alloc HR.out _) ⟨wr.heap.size, 0, none⟩ 1 1 [.int .i64 k, .int .i64 m] rfl rfl (news_pair (heap_alloc_new wr _)) (one_pair _ _) (by omega) (by unfold maxLen; omega) (by omega) (by have := HW.out.size; simp; omega) _ rfl ?_; intro gg cp w2 hown2 hgrow2 hat2 hlt2)
        have HO := Lib.hid hown2
        have HG := Lib.hid hgrow2
        clear hown2 hgrow2 hat2 hlt2
        go_wp2_with fail
        go_roundg (n - (j + 1))
        case measure => go_light; omega
        case rel =>
          go_light
          refine ⟨j + 1, _, rfl, by go_num, by omega, by omega, ?_, (HW.out.alloc HW.out.size _).grown HG.out (by have := HW.out.size; simp; omega) (fun k hk => HR.out.blk k hk)⟩
          unfold Row2
          rw [HT.out, if_neg HJA.out, HK.out, flat2_append, List.length_append]
          simpa [flat2] using HO.out
    · obtain rfl : j = n := by omega
      go_wp2_with fail
      go_ret
      go_light
      refine ⟨u5, rfl, ?_, HW.out⟩
      have h := HR.out
      rwa [List.take_of_length_le (by have := HL.out; omega)] at h

/-- A slice of items stands where another row grew. -/
theorem Arr2.grown {w w' : World} {ao : Option Addr} {n cap : Nat} {l : List (Int × Int)} {r : Option Nat} (h : Arr2 w (.slice ao n cap) l) (hg : w.grownBy w' r) (hr : ∀ b off, ao = some ⟨b, off, none⟩ → r ≠ some b) : Arr2 w' (.slice ao n cap) l := by
  obtain ⟨ao', cap', hv, h⟩ := h
  simp only [Value.slice.injEq] at hv
  obtain ⟨rfl, rfl, rfl⟩ := hv
  refine ⟨ao, cap, rfl, fun h0 => ?_⟩
  obtain ⟨b, off, ha, hlt, hc⟩ := h h0
  have e : w'.heap[b]? = w.heap[b]? := hg.block b hlt (fun e => hr b off ha e.symm)
  have hcell : ∀ o, w'.cell? ⟨b, o, none⟩ = w.cell? ⟨b, o, none⟩ := fun o => World.cell?_of_block (w := w) (a := ⟨b, o, none⟩) e
  exact ⟨b, off, ha, Nat.lt_of_lt_of_le hlt hg.size, fun i hi => ⟨by rw [hcell]; exact (hc i hi).1, by rw [hcell]; exact (hc i hi).2⟩⟩

def RSRel (w : World) (l : List (Int × Int)) (vo v0 : Value) (g : Nat) (wr : World) : Prop :=
  ∃ (cur out : List (Int × Int)) (ao : Option Addr) (n cap : Nat), v0 = .slice ao n cap ∧ cur.length = n ∧ n ≤ g ∧ out.length + n = l.length ∧ Arr2 wr v0 cur ∧ Row2 w.heap.size wr vo out ∧ Below w.heap.size w wr ∧ out ++ srt n cur = srt l.length l ∧
    ∀ b off, ao = some ⟨b, off, none⟩ → vo.ownBlock ≠ some b
def RSEnd (w : World) (l : List (Int × Int)) (e : Ending) (w' : World) : Prop := ∃ vo, e = .returned vo ∧ Row2 w.heap.size w' vo (srt l.length l) ∧ Below w.heap.size w w'

set_option maxHeartbeats 2000000 in
set_option maxRecDepth 1000000 in
theorem rsorted_any (ao : Option Addr) (n cap : Nat) (l : List (Int × Int)) (w : World) (hA : Arr2 w (.slice ao n cap) l) (hl : l.length = n) (hn : n ≤ 900) :
    Calls Try.prog 33 #[.slice ao n cap] w (RSEnd w l) := by
  obtain ⟨j0, hj0, hz0, hz1, hz2⟩ := info_parts Try.info26
  have h0 : Hid (RSRel w l (.slice none 0 0) (.slice ao n cap) n w) := Lib.hid ⟨l, [], ao, n, cap, rfl, hl, Nat.le_refl _, by simp [hl], hA, World.ownsRow_nil _ _ _ _, Below.refl _ _, by rw [hl]; rfl, fun b off _ => by simp [Value.ownBlock]⟩
  have HL := Lib.hid hl
  clear hA hl
  go_enter Try.func33, Try.ntmps33
  go_wp2_with fail
  go_loopg [3, 0] n (fun g vo v0 wr => ∃ wx : World, wx = wr ∧ RSRel w l vo v0 g wx)
  case atStart => exact ⟨_, rfl, h0.out⟩
  case round =>
    clear h0
    obtain ⟨wr, rfl, cur, out, co, m, cc, rfl, hcl, hmg, hlen, hC, hR, hW, hS, hP⟩ := hrel
    have HR := Lib.hid hR
    have HW := Lib.hid hW
    have HC := Lib.hid hC
    have HCl := Lib.hid hcl
    have HS := Lib.hid hS
    have HP := Lib.hid hP
    have hln : out.length + m ≤ 900 := by have := HL.out; omega
    have HLen := Lib.hid hlen
    clear hR hW hC hcl hS hP hlen
    by_cases h0 : 0 < m
    · have h0' : (0 : Int) < (m : Int) := by omega
      obtain ⟨fr0, fr1⟩ := frst_some cur (by have := HCl.out; omega)
      obtain ⟨a, ha⟩ : ∃ a : Nat, frst cur = a := ⟨(frst cur).toNat, (Int.toNat_of_nonneg fr0).symm⟩
      have HAa := Lib.hid ha
      have ham : a < m := by have := HCl.out; omega
      have ham' : (a : Int) < (m : Int) := by omega
      have ha0 : (0 : Int) ≤ (a : Int) := by omega
      clear ha fr0 fr1
      go_wp2_with fail
      refine (first_any co m cc cur _ HC.out HCl.out (by omega)).mono ?_
      rintro e w1 ⟨rfl, hb⟩
      rw [HAa.out]
      have HC1 := Lib.hid (HC.out.below hb)
      have HR1 := Lib.hid (HR.out.below hb)
      have HW1 := Lib.hid (HW.out.trans (hb.mono HW.out.size))
      clear hb HC HR HW
      have hal : a < cur.length := by have := HCl.out; omega
      obtain ⟨bb, off, hco, hbw, c0, c1⟩ := Arr2.at HC1.out a hal
      obtain ⟨k, hk⟩ : ∃ k, cur[a].1 = k := ⟨_, rfl⟩
      obtain ⟨q, hq⟩ : ∃ k, cur[a].2 = k := ⟨_, rfl⟩
      have HK : Hid (cur[a] = (k, q)) := Lib.hid (Prod.ext hk hq)
      rw [hk] at c0
      rw [hq] at c1
      have HP1 : Hid (u3.ownBlock ≠ some bb) := Lib.hid (HP.out bb off hco)
      subst hco
      clear hk hq
      go_wp2_with (at_builtin; refine wpList_append_lies _ rfl _ _ 24 rfl w.heap.size 26 j0 _ 2 16 Try.underlying24 hj0 hz0 hz1 hz2 rfl (by omega) u3 _ (flat2 out) rfl (World.ownsRow.alloc HR1.out _) ⟨w1.heap.size, 0, none⟩ 1 1 [.int .i64 k, .int .i64 q] rfl rfl (news_pair (heap_alloc_new w1 _)) (one_pair _ _) (by omega) (by unfold maxLen; omega) (by omega) (by have := HW1.out.size; simp; omega) _ rfl ?_; intro gg cp w2 hown2 hgrow2 hat2 hlt2)
      have HO := Lib.hid hown2
      have hb1 : Below w1.heap.size w1 (w1.alloc (.cells #[.int .i64 k, .int .i64 q] 26)) := (Below.refl _ _).alloc (Nat.le_refl _) _
      have HC2 := Lib.hid ((HC1.out.below hb1).grown hgrow2 (fun b o e => by simp only [Option.some.injEq, Addr.mk.injEq] at e; obtain ⟨rfl, rfl, _⟩ := e; exact HP1.out))
      have HW2 := Lib.hid ((HW1.out.alloc HW1.out.size (.cells #[.int .i64 k, .int .i64 q] 26)).grown hgrow2 (by have := HW1.out.size; simp; omega) (fun k hk => HR1.out.blk k hk))
      clear hown2 hgrow2 hat2 hlt2 c0 c1 hb1 hbw HC1 HR1 HW1 HP1
      go_wp2_with fail
      refine (without_any (some ⟨bb, off, none⟩) m cc cur a _ HC2.out HCl.out (by omega) (by omega)).mono ?_
      rintro e w3 ⟨vn, rfl, hrn, hb⟩
      obtain ⟨an, cn, hvn⟩ := hrn.slice
      have hel : (cur.eraseIdx a).length = m - 1 := by rw [List.length_eraseIdx_of_lt hal, HCl.out]
      rw [hel] at hvn
      subst hvn
      have HRow3 : Hid (Row2 w.heap.size w3 (.slice (some ⟨gg, 0, none⟩) (out.length + 1) cp) (out ++ [(k, q)])) := Lib.hid (Row2.below (by unfold Row2; rw [flat2_append, List.length_append]; simpa [flat2] using HO.out) hb)
      have hgg : gg < w2.heap.size := by
        have h := HO.out
        exact (World.ownsRow.lt h gg rfl).2
      have HP3 : Hid (∀ b o, an = some ⟨b, o, none⟩ → (Value.slice (some ⟨gg, 0, none⟩) (out.length + 1) cp).ownBlock ≠ some b) := Lib.hid (fun b o e h => by
        have h1 := hrn.lt b (by rw [e]; rfl)
        simp [Value.ownBlock] at h
        omega)
      have HA3 := Lib.hid hrn.arr
      have HW3 := Lib.hid (HW2.out.trans (hb.mono HW2.out.size))
      have HEl := Lib.hid hel
      have HSn : Hid ((out ++ [(k, q)]) ++ srt (m - 1) (cur.eraseIdx a) = srt l.length l) := Lib.hid (by
        have h := HS.out
        obtain ⟨m', hm'⟩ : ∃ m', m = m' + 1 := ⟨m - 1, by omega⟩
        rw [hm', srt, HAa.out, Int.toNat_natCast] at h
        rw [hm', Nat.add_sub_cancel, List.append_assoc, ← h]
        have : cur[a]! = cur[a] := by rw [List.getElem!_eq_getElem?_getD, List.getElem?_eq_getElem hal]; rfl
        rw [this, HK.out]
        rfl)
      clear hrn hb hel hgg
      go_wp2_with fail
      go_roundg (m - 1)
      case measure => go_light; omega
      case rel =>
        go_light
        exact ⟨_, rfl, cur.eraseIdx a, out ++ [(k, q)], an, m - 1, cn, rfl, HEl.out, Nat.le_refl _, by have := HLen.out; simp; omega, HA3.out, HRow3.out, HW3.out, HSn.out, HP3.out⟩
    · obtain rfl : m = 0 := by omega
      go_wp2_with fail
      go_ret
      go_light
      have h := HS.out
      rw [srt, List.append_nil] at h
      exact ⟨_, rfl, by rw [← h]; exact HR.out, HW.out⟩
end Go.Proofs.Ytjdkaagkaambkaa
