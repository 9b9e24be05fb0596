/- The heap's loops: 'up' and 'down' turn the array as the plain functions say. -/
import Derived.Test.YtjdkaagkaambkaaA
namespace Go.Proofs.Ytjdkaagkaambkaa
open Go.RowKit Go.Proofs

theorem before_b (fid : Nat) (K : Int → Int) (hL : LessOK fid K) (hrun : RunOK fid) (p : Nat) (v : Value) (xs : Array It) (nx : Int) (i j : Int) (b : Bool) (w : World) (hH : HeapAt w p fid v xs nx)
    (hi0 : 0 ≤ i) (hi : i < xs.size) (hj0 : 0 ≤ j) (hj : j < xs.size) (hb : lt K xs[i.toNat]! xs[j.toNat]! = b) :
    Calls Try.prog 40 #[.pointer (some ⟨p, 0, none⟩), .int .i64 i, .int .i64 j] w fun e w' => e = .returned (.bool b) ∧ Below w.heap.size w w' := by
  rw [← hb]
  exact before_any fid K hL hrun p v xs nx i j w hH hi0 hi hj0 hj

def UpRel (w : World) (K : Int → Int) (p fid : Nat) (v : Value) (nx : Int) (i0 : Nat) (xs : Array It) (g : Nat) (iv : Value) (wr : World) : Prop :=
  ∃ (i : Nat) (ys : Array It), iv = .int .i64 i ∧ i < ys.size ∧ i ≤ g ∧ ys.size = xs.size ∧ HeapAt wr p fid v ys nx ∧ w.grownBy wr v.ownBlock ∧ Hp.upM (lt K) i0 xs = Hp.upM (lt K) i ys

def UpEnd (w : World) (K : Int → Int) (p fid : Nat) (v : Value) (nx : Int) (i0 : Nat) (xs : Array It) (e : Ending) (w' : World) : Prop :=
  e = .returned (.tuple #[]) ∧ HeapAt w' p fid v (Hp.upM (lt K) i0 xs) nx ∧ w.grownBy w' v.ownBlock

set_option maxHeartbeats 4000000 in
set_option maxRecDepth 1000000 in
theorem up_raw (fid : Nat) (K : Int → Int) (hL : LessOK fid K) (hrun : RunOK fid) (p : Nat) (v : Value) (xs : Array It) (nx : Int) (i0 : Nat) (w : World) (hH : HeapAt w p fid v xs nx) (hi : i0 < xs.size) :
    Calls Try.prog 36 #[.pointer (some ⟨p, 0, none⟩), .int .i64 i0] w (UpEnd w K p fid v nx i0 xs) := by
  have hrel0 : Hid (UpRel w K p fid v nx i0 xs i0 (.int .i64 i0) w) := Lib.hid ⟨i0, xs, rfl, hi, Nat.le_refl _, rfl, hH, grown_refl _ _, rfl⟩
  have HL := Lib.hid hL
  have HR := Lib.hid hrun
  clear hH hL hrun
  go_enter Try.func36, Try.ntmps36
  go_wp2_with fail
  go_loopg [1] i0 (fun g iv wr => UpRel w K p fid v nx i0 xs g iv wr)
  case atStart => exact hrel0.out
  case round =>
    clear hrel0
    obtain ⟨i, ys, rfl, hiy, hig, hsz, hHy, hgr, heq⟩ := hrel
    have HHy := Lib.hid hHy
    have HGr := Lib.hid hgr
    have HEq := Lib.hid heq
    have hsm := hHy.small
    have hi1 : (i : Int) ≤ 1000000 := by omega
    have HSz := Lib.hid hsz
    clear hHy hgr heq hsz
    by_cases h0 : i = 0
    · subst h0
      go_wp2_with fail
      go_end0
      have h2 : Hp.upM (lt K) i0 xs = ys := by rw [HEq.out, Hp.upM_stop _ _ _ (by omega)]
      exact ⟨rfl, by rw [h2]; exact HHy.out, HGr.out⟩
    · have h0' : (0 : Int) < (i : Int) := by omega
      clear h0
      have ht : ((i : Int) - 1) / 2 < (ys.size : Int) := by omega
      have htn : (((i : Int) - 1) / 2).toNat = (i - 1) / 2 := by omega
      have HTn := Lib.hid htn
      clear htn
      cases hb : lt K ys[i]! ys[(i - 1) / 2]! with
      | true =>
        have HB := Lib.hid hb
        clear hb
        go_wp2_with fail
        refine (before_b fid K HL.out HR.out p v ys nx _ _ true _ HHy.out ?_ ?_ ?_ ?_ ?_).mono ?_
        · omega
        · omega
        · omega
        · omega
        · rw [HTn.out, Int.toNat_natCast]; exact HB.out
        rintro e w1 ⟨rfl, hb1⟩
        have HB1 := Lib.hid hb1
        clear hb1
        go_wp2_with fail
        refine (swap_any fid p v ys nx _ _ _ (HHy.out.below HB1.out) ?_ ?_ ?_ ?_ ?_).mono ?_
        · omega
        · omega
        · omega
        · omega
        · omega
        rintro e w2 ⟨rfl, hH2, hg2⟩
        rw [HTn.out, Int.toNat_natCast] at hH2
        have HH2 := Lib.hid hH2
        have HG2 := Lib.hid hg2
        clear hH2 hg2
        go_wp2_with fail
        go_roundg (i - 1)
        case measure => omega
        case rel =>
          refine ⟨(i - 1) / 2, Hp.swp ys i ((i - 1) / 2), by go_num, by simp; omega, by omega, by rw [← HSz.out]; simp, HH2.out, grown_trans (grown_below HGr.out HB1.out) HG2.out, ?_⟩
          rw [HEq.out, Hp.upM_go _ _ _ (by omega) HB.out]
      | false =>
        have HB := Lib.hid hb
        clear hb
        go_wp2_with fail
        refine (before_b fid K HL.out HR.out p v ys nx _ _ false _ HHy.out ?_ ?_ ?_ ?_ ?_).mono ?_
        · omega
        · omega
        · omega
        · omega
        · rw [HTn.out, Int.toNat_natCast]; exact HB.out
        rintro e w1 ⟨rfl, hb1⟩
        have HB1 := Lib.hid hb1
        clear hb1
        go_wp2_with fail
        go_end0
        have h2 : Hp.upM (lt K) i0 xs = ys := by rw [HEq.out, Hp.upM_stop _ _ _ (by rw [HB.out]; simp)]
        exact ⟨rfl, by rw [h2]; exact HHy.out.below HB1.out, grown_below HGr.out HB1.out⟩

theorem up_any (fid : Nat) (K : Int → Int) (hL : LessOK fid K) (hrun : RunOK fid) (p : Nat) (v : Value) (xs : Array It) (nx : Int) (i0 : Int) (w : World) (hH : HeapAt w p fid v xs nx) (h0 : 0 ≤ i0) (hi : i0 < xs.size) :
    Calls Try.prog 36 #[.pointer (some ⟨p, 0, none⟩), .int .i64 i0] w (UpEnd w K p fid v nx i0.toNat xs) := by
  obtain ⟨i0, rfl⟩ := Int.eq_ofNat_of_zero_le h0
  exact up_raw fid K hL hrun p v xs nx i0 w hH (by omega)

theorem HeapAt.slice {w : World} {p fid : Nat} {v : Value} {xs : Array It} {nx : Int} (h : HeapAt w p fid v xs nx) : ∃ ao cap, v = .slice ao xs.size cap := by
  rcases h.row.2 with ⟨h1, h2⟩ | ⟨g, cap, cur, h1, _⟩
  · exact ⟨none, 0, by rw [h1, h2]⟩
  · exact ⟨_, cap, h1⟩

def DownRel (w : World) (K : Int → Int) (p fid : Nat) (v : Value) (nx : Int) (i0 : Nat) (xs : Array It) (g : Nat) (iv : Value) (wr : World) : Prop :=
  ∃ (i : Nat) (ys : Array It), iv = .int .i64 i ∧ xs.size ≤ g + i ∧ i ≤ xs.size ∧ ys.size = xs.size ∧ HeapAt wr p fid v ys nx ∧ w.grownBy wr v.ownBlock ∧ Hp.downM (lt K) i0 xs = Hp.downM (lt K) i ys

def DownEnd (w : World) (K : Int → Int) (p fid : Nat) (v : Value) (nx : Int) (i0 : Nat) (xs : Array It) (e : Ending) (w' : World) : Prop :=
  e = .returned (.tuple #[]) ∧ HeapAt w' p fid v (Hp.downM (lt K) i0 xs) nx ∧ w.grownBy w' v.ownBlock

set_option maxHeartbeats 16000000 in
set_option maxRecDepth 1000000 in
theorem down_raw (fid : Nat) (K : Int → Int) (hL : LessOK fid K) (hrun : RunOK fid) (p : Nat) (ao : Option Addr) (n cap : Nat) (xs : Array It) (nx : Int) (i0 : Nat) (w : World) (hH : HeapAt w p fid (.slice ao n cap) xs nx) (hn : xs.size = n) (hi : i0 ≤ xs.size) :
    Calls Try.prog 39 #[.pointer (some ⟨p, 0, none⟩), .int .i64 i0] w (DownEnd w K p fid (.slice ao n cap) nx i0 xs) := by
  have hrel0 : Hid (DownRel w K p fid (.slice ao n cap) nx i0 xs (xs.size - i0) (.int .i64 i0) w) := Lib.hid ⟨i0, xs, rfl, by omega, hi, rfl, hH, grown_refl _ _, rfl⟩
  have HL := Lib.hid hL
  have HR := Lib.hid hrun
  have HN := Lib.hid hn
  clear hH hL hrun hi hn
  go_enter Try.func39, Try.ntmps39
  go_wp2_with fail
  go_loopg [1, 4] (xs.size - i0) (fun g iv _ wr => DownRel w K p fid (.slice ao n cap) nx i0 xs g iv wr)
  case atStart => exact hrel0.out
  case round =>
    clear hrel0
    obtain ⟨i, ys, rfl, hig, hin, hsz, hHy, hgr, heq⟩ := hrel
    have hsz' : ys.size = n := hsz.trans HN.out
    have HHy := Lib.hid hHy
    have HGr := Lib.hid hgr
    have HEq := Lib.hid heq
    have HSz := Lib.hid hsz
    have HYn := Lib.hid hsz'
    have hsm := hHy.small
    have hc1 := hHy.cells.2.1
    have hn1 : (n : Int) ≤ 1000000 := by omega
    have hi1 : (i : Int) ≤ 1000000 := by have := HN.out; omega
    have hxn : n ≤ xs.size := by have := HN.out; omega
    clear hHy hgr heq hsz hsz' hin hsm
    by_cases hA : 2 * i + 1 < n
    · have hA' : 2 * (i : Int) + 1 < (n : Int) := by omega
      by_cases hB : 2 * i + 1 + 1 < n
      · have hB' : 2 * (i : Int) + 1 + 1 < (n : Int) := by omega
        cases hb1 : lt K ys[2 * i + 1 + 1]! ys[2 * i + 1]! with
        | true =>
          have HB1 := Lib.hid hb1
          clear hb1
          go_wp2_with fail
          refine (before_b fid K HL.out HR.out p (.slice ao n cap) ys nx _ _ true _ HHy.out ?_ ?_ ?_ ?_ ?_).mono ?_
          · omega
          · have := HYn.out; omega
          · omega
          · have := HYn.out; omega
          · rw [show (2 * (i : Int) + 1 + 1).toNat = 2 * i + 1 + 1 from by omega, show (2 * (i : Int) + 1).toNat = 2 * i + 1 from by omega]; exact HB1.out
          rintro e w1 ⟨rfl, hb1⟩
          have HW1 := Lib.hid hb1
          clear hb1
          have HC : Hid (Hp.childM (lt K) ys i = 2 * i + 1 + 1) := Lib.hid (by unfold Hp.childM; rw [if_pos ⟨by rw [HYn.out]; exact hB, HB1.out⟩])
          cases hb2 : lt K ys[2 * i + 1 + 1]! ys[i]! with
          | true =>
            have HB2 := Lib.hid hb2
            clear hb2
            go_wp2_with fail
            refine (before_b fid K HL.out HR.out p (.slice ao n cap) ys nx _ _ true _ (HHy.out.below HW1.out) ?_ ?_ ?_ ?_ ?_).mono ?_
            · omega
            · have := HYn.out; omega
            · omega
            · have := HYn.out; omega
            · rw [show (2 * (i : Int) + 1 + 1).toNat = 2 * i + 1 + 1 from by omega, Int.toNat_natCast]; exact HB2.out
            rintro e w2 ⟨rfl, hb2⟩
            have HW2 := Lib.hid hb2
            clear hb2
            go_wp2_with fail
            refine (swap_any fid p (.slice ao n cap) ys nx _ _ _ ((HHy.out.below HW1.out).below HW2.out) ?_ ?_ ?_ ?_ ?_).mono ?_
            · omega
            · have := HYn.out; omega
            · omega
            · have := HYn.out; omega
            · omega
            rintro e w3 ⟨rfl, hH3, hg3⟩
            rw [show (2 * (i : Int) + 1 + 1).toNat = 2 * i + 1 + 1 from by omega, Int.toNat_natCast] at hH3
            have HH3 := Lib.hid hH3
            have HG3 := Lib.hid hg3
            clear hH3 hg3
            go_wp2_with fail
            go_roundg (n - (2 * i + 1 + 1))
            case measure => omega
            case rel =>
              refine ⟨2 * i + 1 + 1, Hp.swp ys i (2 * i + 1 + 1), by go_num, by have := HN.out; omega, by have := HN.out; omega, by rw [← HSz.out]; simp, HH3.out, grown_trans (grown_below (grown_below HGr.out HW1.out) HW2.out) HG3.out, ?_⟩
              rw [HEq.out, Hp.downM_go _ _ _ (by rw [HYn.out]; exact hA) (by rw [HC.out]; exact HB2.out), HC.out]
          | false =>
            have HB2 := Lib.hid hb2
            clear hb2
            go_wp2_with fail
            refine (before_b fid K HL.out HR.out p (.slice ao n cap) ys nx _ _ false _ (HHy.out.below HW1.out) ?_ ?_ ?_ ?_ ?_).mono ?_
            · omega
            · have := HYn.out; omega
            · omega
            · have := HYn.out; omega
            · rw [show (2 * (i : Int) + 1 + 1).toNat = 2 * i + 1 + 1 from by omega, Int.toNat_natCast]; exact HB2.out
            rintro e w2 ⟨rfl, hb2⟩
            have HW2 := Lib.hid hb2
            clear hb2
            go_wp2_with fail
            go_end0
            have h2 : Hp.downM (lt K) i0 xs = ys := by rw [HEq.out, Hp.downM_stop _ _ _ (by rw [HC.out]; exact HB2.out)]
            exact ⟨rfl, by rw [h2]; exact (HHy.out.below HW1.out).below HW2.out, grown_below (grown_below HGr.out HW1.out) HW2.out⟩
        | false =>
          have HB1 := Lib.hid hb1
          clear hb1
          go_wp2_with fail
          refine (before_b fid K HL.out HR.out p (.slice ao n cap) ys nx _ _ false _ HHy.out ?_ ?_ ?_ ?_ ?_).mono ?_
          · omega
          · have := HYn.out; omega
          · omega
          · have := HYn.out; omega
          · rw [show (2 * (i : Int) + 1 + 1).toNat = 2 * i + 1 + 1 from by omega, show (2 * (i : Int) + 1).toNat = 2 * i + 1 from by omega]; exact HB1.out
          rintro e w1 ⟨rfl, hb1⟩
          have HW1 := Lib.hid hb1
          clear hb1
          have HC : Hid (Hp.childM (lt K) ys i = 2 * i + 1) := Lib.hid (by unfold Hp.childM; rw [if_neg (by rw [HB1.out]; simp)])
          cases hb2 : lt K ys[2 * i + 1]! ys[i]! with
          | true =>
            have HB2 := Lib.hid hb2
            clear hb2
            go_wp2_with fail
            refine (before_b fid K HL.out HR.out p (.slice ao n cap) ys nx _ _ true _ (HHy.out.below HW1.out) ?_ ?_ ?_ ?_ ?_).mono ?_
            · omega
            · have := HYn.out; omega
            · omega
            · have := HYn.out; omega
            · rw [show (2 * (i : Int) + 1).toNat = 2 * i + 1 from by omega, Int.toNat_natCast]; exact HB2.out
            rintro e w2 ⟨rfl, hb2⟩
            have HW2 := Lib.hid hb2
            clear hb2
            go_wp2_with fail
            refine (swap_any fid p (.slice ao n cap) ys nx _ _ _ ((HHy.out.below HW1.out).below HW2.out) ?_ ?_ ?_ ?_ ?_).mono ?_
            · omega
            · have := HYn.out; omega
            · omega
            · have := HYn.out; omega
            · omega
            rintro e w3 ⟨rfl, hH3, hg3⟩
            rw [show (2 * (i : Int) + 1).toNat = 2 * i + 1 from by omega, Int.toNat_natCast] at hH3
            have HH3 := Lib.hid hH3
            have HG3 := Lib.hid hg3
            clear hH3 hg3
            go_wp2_with fail
            go_roundg (n - (2 * i + 1))
            case measure => omega
            case rel =>
              refine ⟨2 * i + 1, Hp.swp ys i (2 * i + 1), by go_num, by have := HN.out; omega, by have := HN.out; omega, by rw [← HSz.out]; simp, HH3.out, grown_trans (grown_below (grown_below HGr.out HW1.out) HW2.out) HG3.out, ?_⟩
              rw [HEq.out, Hp.downM_go _ _ _ (by rw [HYn.out]; exact hA) (by rw [HC.out]; exact HB2.out), HC.out]
          | false =>
            have HB2 := Lib.hid hb2
            clear hb2
            go_wp2_with fail
            refine (before_b fid K HL.out HR.out p (.slice ao n cap) ys nx _ _ false _ (HHy.out.below HW1.out) ?_ ?_ ?_ ?_ ?_).mono ?_
            · omega
            · have := HYn.out; omega
            · omega
            · have := HYn.out; omega
            · rw [show (2 * (i : Int) + 1).toNat = 2 * i + 1 from by omega, Int.toNat_natCast]; exact HB2.out
            rintro e w2 ⟨rfl, hb2⟩
            have HW2 := Lib.hid hb2
            clear hb2
            go_wp2_with fail
            go_end0
            have h2 : Hp.downM (lt K) i0 xs = ys := by rw [HEq.out, Hp.downM_stop _ _ _ (by rw [HC.out]; exact HB2.out)]
            exact ⟨rfl, by rw [h2]; exact (HHy.out.below HW1.out).below HW2.out, grown_below (grown_below HGr.out HW1.out) HW2.out⟩
      · have hB' : (n : Int) ≤ 2 * (i : Int) + 1 + 1 := by omega
        have HC : Hid (Hp.childM (lt K) ys i = 2 * i + 1) := Lib.hid (by unfold Hp.childM; rw [if_neg (by rw [HYn.out]; omega)])
        cases hb2 : lt K ys[2 * i + 1]! ys[i]! with
        | true =>
          have HB2 := Lib.hid hb2
          clear hb2
          go_wp2_with fail
          refine (before_b fid K HL.out HR.out p (.slice ao n cap) ys nx _ _ true _ HHy.out ?_ ?_ ?_ ?_ ?_).mono ?_
          · omega
          · have := HYn.out; omega
          · omega
          · have := HYn.out; omega
          · rw [show (2 * (i : Int) + 1).toNat = 2 * i + 1 from by omega, Int.toNat_natCast]; exact HB2.out
          rintro e w2 ⟨rfl, hb2⟩
          have HW2 := Lib.hid hb2
          clear hb2
          go_wp2_with fail
          refine (swap_any fid p (.slice ao n cap) ys nx _ _ _ ((HHy.out).below HW2.out) ?_ ?_ ?_ ?_ ?_).mono ?_
          · omega
          · have := HYn.out; omega
          · omega
          · have := HYn.out; omega
          · omega
          rintro e w3 ⟨rfl, hH3, hg3⟩
          rw [show (2 * (i : Int) + 1).toNat = 2 * i + 1 from by omega, Int.toNat_natCast] at hH3
          have HH3 := Lib.hid hH3
          have HG3 := Lib.hid hg3
          clear hH3 hg3
          go_wp2_with fail
          go_roundg (n - (2 * i + 1))
          case measure => omega
          case rel =>
            refine ⟨2 * i + 1, Hp.swp ys i (2 * i + 1), by go_num, by have := HN.out; omega, by have := HN.out; omega, by rw [← HSz.out]; simp, HH3.out, grown_trans (grown_below HGr.out HW2.out) HG3.out, ?_⟩
            rw [HEq.out, Hp.downM_go _ _ _ (by rw [HYn.out]; exact hA) (by rw [HC.out]; exact HB2.out), HC.out]
        | false =>
          have HB2 := Lib.hid hb2
          clear hb2
          go_wp2_with fail
          refine (before_b fid K HL.out HR.out p (.slice ao n cap) ys nx _ _ false _ HHy.out ?_ ?_ ?_ ?_ ?_).mono ?_
          · omega
          · have := HYn.out; omega
          · omega
          · have := HYn.out; omega
          · rw [show (2 * (i : Int) + 1).toNat = 2 * i + 1 from by omega, Int.toNat_natCast]; exact HB2.out
          rintro e w2 ⟨rfl, hb2⟩
          have HW2 := Lib.hid hb2
          clear hb2
          go_wp2_with fail
          go_end0
          have h2 : Hp.downM (lt K) i0 xs = ys := by rw [HEq.out, Hp.downM_stop _ _ _ (by rw [HC.out]; exact HB2.out)]
          exact ⟨rfl, by rw [h2]; exact (HHy.out).below HW2.out, grown_below HGr.out HW2.out⟩
    · have hA' : (n : Int) ≤ 2 * (i : Int) + 1 := by omega
      go_wp2_with fail
      go_end0
      have h2 : Hp.downM (lt K) i0 xs = ys := by rw [HEq.out, Hp.downM_end _ _ _ (by rw [HYn.out]; exact hA)]
      exact ⟨rfl, by rw [h2]; exact HHy.out, HGr.out⟩

theorem down_any (fid : Nat) (K : Int → Int) (hL : LessOK fid K) (hrun : RunOK fid) (p : Nat) (v : Value) (xs : Array It) (nx : Int) (i0 : Int) (w : World) (hH : HeapAt w p fid v xs nx) (h0 : 0 ≤ i0) (hi : i0 ≤ xs.size) :
    Calls Try.prog 39 #[.pointer (some ⟨p, 0, none⟩), .int .i64 i0] w (DownEnd w K p fid v nx i0.toNat xs) := by
  obtain ⟨i0, rfl⟩ := Int.eq_ofNat_of_zero_le h0
  obtain ⟨ao, cap, rfl⟩ := hH.slice
  exact down_raw fid K hL hrun p ao xs.size cap xs nx i0 w hH rfl (by omega)
end Go.Proofs.Ytjdkaagkaambkaa
