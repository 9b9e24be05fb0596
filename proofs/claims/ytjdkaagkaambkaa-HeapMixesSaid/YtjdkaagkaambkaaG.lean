/- 'Same' of the reference, and 'awake', each by a contract. -/
import Derived.Test.YtjdkaagkaambkaaF
namespace Go.Proofs.Ytjdkaagkaambkaa
open Go.RowKit Go.Proofs

theorem Arr2.at {w : World} {ao : Option Addr} {n cap : Nat} {l : List (Int × Int)} (h : Arr2 w (.slice ao n cap) l) (j : Nat) (hj : j < l.length) :
    ∃ bb off, ao = some ⟨bb, off, none⟩ ∧ bb < w.heap.size ∧ w.cell? ⟨bb, off + j * 2, none⟩ = some (.int .i64 l[j].1) ∧ w.cell? ⟨bb, off + j * 2 + 1, none⟩ = some (.int .i64 l[j].2) := by
  obtain ⟨ao', cap', e, h⟩ := h
  simp only [Value.slice.injEq] at e
  obtain ⟨rfl, _, _⟩ := e
  obtain ⟨bb, off, h1, h2, h3⟩ := h (by omega)
  exact ⟨bb, off, h1, h2, h3 j hj⟩

def SameRel (w : World) (l m : List (Int × Int)) (jv : Value) (wr : World) : Prop :=
  ∃ j : Nat, jv = .int .i64 j ∧ j ≤ l.length ∧ Below w.heap.size w wr ∧ l.take j = m.take j

def SameEnd (w : World) (l m : List (Int × Int)) (e : Ending) (w' : World) : Prop := e = .returned (.bool (decide (l = m))) ∧ Below w.heap.size w w'

set_option maxHeartbeats 1000000 in
set_option maxRecDepth 1000000 in
theorem same_any (ao bo : Option Addr) (n ca n' cb : Nat) (l m : List (Int × Int)) (w : World) (hA : Arr2 w (.slice ao n ca) l) (hB : Arr2 w (.slice bo n' cb) m) (hn : n ≤ 100000) (hl : l.length = n) (hm : m.length = n') :
    Calls Try.prog 31 #[.slice ao n ca, .slice bo n' cb] w (SameEnd w l m) := by
  have HLn := Lib.hid hl
  have HMn := Lib.hid hm
  have HA := Lib.hid hA
  have HB := Lib.hid hB
  clear hA hB hl hm
  by_cases hnn : n = n'
  · subst hnn
    have hf : ((n : Int) != (n : Int)) = false := by simp
    go_enter Try.func31, Try.ntmps31
    go_wp2_with fail
    go_loopg [5] (n - 0) (fun g jv wr => SameRel w l m jv wr ∧ n ≤ g + (intOf jv).toNat)
    case atStart => exact ⟨⟨0, rfl, Nat.zero_le _, Below.refl _ _, by simp⟩, by simp [intOf]⟩
    case round =>
      obtain ⟨⟨j, rfl, hjl, hw, hp⟩, hg⟩ := hrel
      simp only [intOf, Int.toNat_natCast] at hg
      have HW := Lib.hid hw
      have HP := Lib.hid hp
      have hjn : j ≤ n := by have := HLn.out; omega
      clear hw hp hjl
      by_cases hlt : j < n
      · have hlt' : (j : Int) < (n : Int) := by omega
        have hjl : j < l.length := by have := HLn.out; omega
        have hjm : j < m.length := by have := HMn.out; omega
        obtain ⟨bb, off, e1, h1, c0, c1⟩ := Arr2.at (HA.out.below HW.out) j hjl
        obtain ⟨bb', off', e2, h2, d0, d1⟩ := Arr2.at (HB.out.below HW.out) j hjm
        subst e1 e2
        obtain ⟨a, ha⟩ : ∃ a, l[j].1 = a := ⟨_, rfl⟩
        obtain ⟨b, hb⟩ : ∃ a, l[j].2 = a := ⟨_, rfl⟩
        obtain ⟨c, hc⟩ : ∃ a, m[j].1 = a := ⟨_, rfl⟩
        obtain ⟨d, hd⟩ : ∃ a, m[j].2 = a := ⟨_, rfl⟩
        rw [ha] at c0
        rw [hb] at c1
        rw [hc] at d0
        rw [hd] at d1
        have C0 := Ext.cell c0
        have C1 := Ext.cell c1
        have D0 := Ext.cell d0
        have D1 := Ext.cell d1
        clear c0 c1 d0 d1
        have hL : l[j] = (a, b) := by rw [← ha, ← hb]
        have hM : m[j] = (c, d) := by rw [← hc, ← hd]
        have HL := Lib.hid hL
        have HM := Lib.hid hM
        clear hL hM ha hb hc hd
        by_cases hac : a = c
        · subst hac
          by_cases hbd : b = d
          · subst hbd
            go_wp2_with fail
            refine wp_region_ext (by kernel_rfl) (by kernel_rfl) ?_
            repeat (refine wpQuiet_step (fun K hK => ?_); go_simp; first | (refine hK _ ?_; clear hK K) | (refine ⟨_, fun _ => rfl, hK _ ?_⟩; clear hK K))
            refine wpQuiet_nil ?_
            rintro _ ⟨u, rfl⟩
            have HU := Lib.hid (HW.out.trans (u.2.mono HW.out.size))
            go_wp2_with fail
            go_roundg (n - (j + 1))
            case measure => omega
            case rel =>
              refine ⟨⟨j + 1, by go_num, by omega, HU.out, ?_⟩, by simp [intOf]; omega⟩
              rw [take_snoc l j hjl, take_snoc m j hjm, HP.out, HL.out, HM.out]
          · go_wp2_with fail
            refine wp_region_ext (by kernel_rfl) (by kernel_rfl) ?_
            repeat (refine wpQuiet_step (fun K hK => ?_); go_simp; first | (refine hK _ ?_; clear hK K) | (refine ⟨_, fun _ => rfl, hK _ ?_⟩; clear hK K))
            refine wpQuiet_nil ?_
            rintro _ ⟨u, rfl⟩
            have HU := Lib.hid (HW.out.trans (u.2.mono HW.out.size))
            go_wp2_with fail
            go_ret
            go_light
            refine ⟨?_, HU.out⟩
            have hne : l ≠ m := by
              intro e
              subst e
              have h1 := HL.out
              rw [HM.out] at h1
              simp only [Prod.mk.injEq] at h1
              omega
            simp [hne]
        · go_wp2_with fail
          refine wp_region_ext (by kernel_rfl) (by kernel_rfl) ?_
          repeat (refine wpQuiet_step (fun K hK => ?_); go_simp; first | (refine hK _ ?_; clear hK K) | (refine ⟨_, fun _ => rfl, hK _ ?_⟩; clear hK K))
          refine wpQuiet_nil ?_
          rintro _ ⟨u, rfl⟩
          have HU := Lib.hid (HW.out.trans (u.2.mono HW.out.size))
          go_wp2_with fail
          go_ret
          go_light
          refine ⟨?_, HU.out⟩
          have hne : l ≠ m := by
            intro e
            subst e
            have h1 := HL.out
            rw [HM.out] at h1
            simp only [Prod.mk.injEq] at h1
            omega
          simp [hne]
      · have hlt' : (n : Int) ≤ (j : Int) := by omega
        go_wp2_with fail
        go_ret
        go_light
        have e1 : l.take j = l := List.take_of_length_le (by have := HLn.out; omega)
        have e2 : m.take j = m := List.take_of_length_le (by have := HMn.out; omega)
        have h1 := HP.out
        rw [e1, e2] at h1
        exact ⟨by simp [h1], HW.out⟩
  · have hf : ((n : Int) != (n' : Int)) = true := by rw [bne_iff_ne]; omega
    go_enter Try.func31, Try.ntmps31
    go_wp2_with fail
    go_ret
    go_light
    refine ⟨?_, Below.refl _ _⟩
    have : l ≠ m := by rintro rfl; have := HLn.out; have := HMn.out; omega
    simp [this]
end Go.Proofs.Ytjdkaagkaambkaa
