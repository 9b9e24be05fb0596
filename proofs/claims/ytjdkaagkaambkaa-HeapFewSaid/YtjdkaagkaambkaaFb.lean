/- The heap that counts: 'before' calls the function once or twice. -/
import Derived.Test.YtjdkaagkaambkaaFa
import Derived.Deep.RegionWith
import Derived.StillTailTactics
import Derived.Laws.EntriesVeiled
namespace Go.Proofs.Ytjdkaagkaambkaa
open Go.RowKit Go.Proofs

set_option maxHeartbeats 4000000 in
set_option maxRecDepth 1000000 in
theorem beforeu_raw (p q g n cap i j : Nat) (a c a' c' k : Int) (w : World) (hi : i < n) (hj : j < n) (_hn : n ≤ 1000000)
   (hpq : p ≠ q) (hp : p < w.heap.size) (hg : g < w.heap.size) (h0 : w.cell? ⟨p, 0, none⟩ = some (cntF q))
   (h1 : w.cell? ⟨p, 1, none⟩ = some (.slice (some ⟨g, 0, none⟩) n cap)) (hq : w.heap[q]? = some (.cells #[.int .i64 k] 3 (0, 0))) (hk : 0 ≤ k) (hk2 : k ≤ 1000000)
   (i0 : w.cell? ⟨g, i * 2, none⟩ = some (.int .u16 a)) (i1 : w.cell? ⟨g, i * 2 + 1, none⟩ = some (.int .i64 c))
   (j0 : w.cell? ⟨g, j * 2, none⟩ = some (.int .u16 a')) (j1 : w.cell? ⟨g, j * 2 + 1, none⟩ = some (.int .i64 c')) :
    Calls Try.prog 42 #[.pointer (some ⟨p, 0, none⟩), .int .i64 i, .int .i64 j] w fun e w' => ∃ b k', e = .returned (.bool b) ∧ k + 1 ≤ k' ∧ k' ≤ k + 2 ∧ w'.heap[q]? = some (.cells #[.int .i64 k'] 3 (0, 0)) ∧ w.grownBy w' (some q) := by
  go_enter Try.func42, Try.ntmps42
  go_upto_region 1 with fail
  go_cut [7, 8] (fun t7 t8 w' => Boxes w (.cells #[.int .u16 a, .int .i64 c] 73 (0, 0)) (.cells #[.int .u16 a', .int .i64 c'] 73 (0, 0)) t7 t8 w')
  case first =>
    go_region
    · go_wp2_with fail
      go_meet
      case rel => exact boxes1 w _ _
    · go_wp2_with fail
      go_meet
      case rel => exact boxes2 w _ _
  case rest =>
    obtain ⟨X, Y, rfl, rfl, hb, hX, hY, hX2, hY2, hx, hy⟩ := hcut
    clear i0 i1 j0 j1 h1
    have hqw : q < w.heap.size := (Array.getElem?_eq_some_iff.1 hq).1
    have hqc : wc.heap[q]? = some (.cells #[.int .i64 k] 3 (0, 0)) := by rw [hb.block _ hqw]; exact hq
    have e0 : wc.cell? ⟨p, 0, none⟩ = some (cntF q) := by rw [(bcell hb).1 _ _ hp]; exact h0
    have x0 : wc.cell? ⟨X, 0, none⟩ = some (.int .u16 a) := cell_of_row wc X 0 _ _ _ hx
    have y0 : wc.cell? ⟨Y, 0, none⟩ = some (.int .u16 a') := cell_of_row wc Y 0 _ _ _ hy
    have hrun : ∀ args w, Sem.run Try.prog (callFunc 18 args) w = .ok (.enter 18 args) w := run18
    have HQ := Lib.hid hqc
    have HX := Lib.hid hx
    have HY := Lib.hid hy
    have HB := Lib.hid hb
    clear hx hy h0 hqc hq hb
    have hcq : q < wc.heap.size := by have := HB.out.size; omega
    by_cases lt : a < a'
    · have lt' : decide (a < a') = true := decide_eq_true lt
      go_upto_region 2 with fail
      go_still_tail 8, (by kernel_rfl)
      change wpList _ _ _ _ _ wc.drew
      obtain ⟨w2, hw2⟩ : ∃ w2, wc.drew = w2 := ⟨_, rfl⟩
      have hq2 : w2.heap[q]? = some (.cells #[.int .i64 k] 3 (0, 0)) := by rw [← hw2]; exact HQ.out
      have HG2 : Hid (wc.grownBy w2 (some q)) := Lib.hid (by rw [← hw2]; exact grown_drew (grown_refl wc _))
      rw [hw2]
      clear hw2
      have HQ2 := Lib.hid hq2
      clear hq2 lt
      go_wp2_with fail
      refine (cnt_less q a a' k _ HQ2.out hk (by omega)).mono ?_
      rintro e w3 ⟨rfl, hw3⟩
      rw [lt']
      have HW3 := Lib.hid hw3
      clear hw3 e0 x0 y0
      go_wp2_with fail
      go_ret
      go_light
      refine ⟨true, k + 1, rfl, by omega, by omega, ?_, ?_⟩
      · rw [← HW3.out]; exact heap_setCell_same w2 q 0 _ _ _ HQ2.out
      · rw [← HW3.out]; exact grown_trans (grown_trans ⟨HB.out.os, HB.out.tape, HB.out.output, HB.out.size, fun k hk _ => HB.out.block k hk⟩ HG2.out) ⟨rfl, rfl, rfl, by simp, fun k _ hk => heap_setCell_other w2 ⟨q, 0, none⟩ k _ (fun e => hk (by rw [e]))⟩
    · have lt' : decide (a < a') = false := decide_eq_false lt
      go_upto_region 2 with fail
      go_still_tail 8, (by kernel_rfl)
      change wpList _ _ _ _ _ wc.drew
      obtain ⟨w2, hw2⟩ : ∃ w2, wc.drew = w2 := ⟨_, rfl⟩
      have hq2 : w2.heap[q]? = some (.cells #[.int .i64 k] 3 (0, 0)) := by rw [← hw2]; exact HQ.out
      have HG2 : Hid (wc.grownBy w2 (some q)) := Lib.hid (by rw [← hw2]; exact grown_drew (grown_refl wc _))
      rw [hw2]
      clear hw2
      have HQ2 := Lib.hid hq2
      clear hq2 lt
      go_wp2_with fail
      refine (cnt_less q a a' k _ HQ2.out hk (by omega)).mono ?_
      rintro e w3 ⟨rfl, hw3⟩
      rw [lt']
      have hG3 : wc.grownBy w3 (some q) := by
        rw [← hw3]; exact grown_trans HG2.out ⟨rfl, rfl, rfl, by simp, fun k _ hk => heap_setCell_other w2 ⟨q, 0, none⟩ k _ (fun e => hk (by rw [e]))⟩
      have hq3 : w3.heap[q]? = some (.cells #[.int .i64 (k + 1)] 3 (0, 0)) := by rw [← hw3]; exact heap_setCell_same w2 q 0 _ _ _ HQ2.out
      have hx3 : w3.heap[X]? = some (.cells #[.int .u16 a, .int .i64 c] 73 (0, 0)) := by rw [hG3.block X hX2 (fun e => by have := Option.some.inj e; omega)]; exact HX.out
      have hy3 : w3.heap[Y]? = some (.cells #[.int .u16 a', .int .i64 c'] 73 (0, 0)) := by rw [hG3.block Y hY2 (fun e => by have := Option.some.inj e; omega)]; exact HY.out
      have e3 : w3.cell? ⟨p, 0, none⟩ = some (cntF q) := by
        have : w3.heap[p]? = wc.heap[p]? := hG3.block p (by have := HB.out.size; omega) (fun e => by have := Option.some.inj e; omega)
        rw [World.cell?_of_block (w := wc) (a := ⟨p, 0, none⟩) this]; exact e0
      clear e0 x0 y0 hw3
      have f0 : w3.cell? ⟨X, 0, none⟩ = some (.int .u16 a) := cell_of_row w3 X 0 _ _ _ hx3
      have f1 : w3.cell? ⟨X, 1, none⟩ = some (.int .i64 c) := cell_of_row w3 X 1 _ _ _ hx3
      have g0 : w3.cell? ⟨Y, 0, none⟩ = some (.int .u16 a') := cell_of_row w3 Y 0 _ _ _ hy3
      have g1 : w3.cell? ⟨Y, 1, none⟩ = some (.int .i64 c') := cell_of_row w3 Y 1 _ _ _ hy3
      have hq3d : w3.drew.heap[q]? = some (.cells #[.int .i64 (k + 1)] 3 (0, 0)) := hq3
      have hG3' := Lib.hid hG3
      have hXq : X ≠ q := by omega
      have hYq : Y ≠ q := by omega
      have fz : ∀ u, (w3.drew.setCell ⟨q, 0, none⟩ u).cell? ⟨X, 1, none⟩ = some (.int .i64 c) := fun u => by
        rw [World.cell?_of_block (w := w3) (a := ⟨X, 1, none⟩) (heap_setCell_other w3.drew ⟨q, 0, none⟩ X u hXq)]; exact f1
      have gz : ∀ u, (w3.drew.setCell ⟨q, 0, none⟩ u).cell? ⟨Y, 1, none⟩ = some (.int .i64 c') := fun u => by
        rw [World.cell?_of_block (w := w3) (a := ⟨Y, 1, none⟩) (heap_setCell_other w3.drew ⟨q, 0, none⟩ Y u hYq)]; exact g1
      have HZ : Hid (∀ w4, w3.drew.setCell ⟨q, 0, none⟩ (.int .i64 (k + 1 + 1)) = w4 → w4.heap[q]? = some (.cells #[.int .i64 (k + 1 + 1)] 3 (0, 0)) ∧ w3.grownBy w4 (some q)) := Lib.hid fun w4 h => by
        rw [← h]
        exact ⟨heap_setCell_same w3.drew q 0 _ _ _ hq3d, grown_trans (grown_drew (grown_refl w3 _)) ⟨rfl, rfl, rfl, by simp, fun k _ hk => heap_setCell_other _ ⟨q, 0, none⟩ k _ (fun e => hk (by rw [e]))⟩⟩
      have hk1 : 0 ≤ k + 1 := by omega
      have hk3 : k + 1 ≤ 1000000000 := by omega
      clear hq3 hx3 hy3 hG3 HQ HX HY HG2 HQ2 lt' hXq hYq
      go_upto_region 4 with fail
      go_cut [6] (fun t6 w' => ∃ b, t6 = .bool b ∧ w3.drew.setCell ⟨q, 0, none⟩ (.int .i64 (k + 1 + 1)) = w')
      case first =>
        clear HZ
        by_cases lt2 : a' < a
        · have lt2' : decide (a' < a) = true := decide_eq_true lt2
          first | (go_region_with (go_at_call 18; refine (cnt_less q a' a (k + 1) _ hq3d hk1 hk3).mono ?_; rintro e w4 ⟨rfl, rfl⟩; rw [lt2'])) | fail
          all_goals (go_wp2_with fail; go_meet; exact ⟨_, rfl, rfl⟩)
        · have lt2' : decide (a' < a) = false := decide_eq_false lt2
          have fz' := fz (.int .i64 (k + 1 + 1))
          have gz' := gz (.int .i64 (k + 1 + 1))
          clear fz gz
          first | (go_region_with (go_at_call 18; refine (cnt_less q a' a (k + 1) _ hq3d hk1 hk3).mono ?_; rintro e w4 ⟨rfl, rfl⟩; rw [lt2'])) | fail
          all_goals (go_wp2_with fail; go_meet; exact ⟨_, rfl, rfl⟩)
      case rest =>
        obtain ⟨b, rfl, hw⟩ := hcut
        obtain ⟨hz1, hz2⟩ := HZ.out _ hw
        have HZ1 := Lib.hid hz1
        have HZ2 := Lib.hid hz2
        clear hz1 hz2 hw fz gz
        go_wp2_with fail
        go_ret
        go_light
        exact ⟨b, k + 1 + 1, rfl, by omega, by omega, HZ1.out, grown_trans (grown_trans ⟨HB.out.os, HB.out.tape, HB.out.output, HB.out.size, fun k hk _ => HB.out.block k hk⟩ hG3'.out) HZ2.out⟩
end Go.Proofs.Ytjdkaagkaambkaa
