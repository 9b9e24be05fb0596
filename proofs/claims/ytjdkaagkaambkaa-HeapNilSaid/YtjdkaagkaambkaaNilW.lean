/- The nil heap's methods, and the walk of HeapNil: for every slice of items it answers true and leaves what was there. -/
import Derived.Test.YtjdkaagkaambkaaH
namespace Go.Proofs.Ytjdkaagkaambkaa
open Go.RowKit Go.Proofs

def TrueEndN (w : World) (e : Ending) (w' : World) : Prop := e = .returned (.bool true) ∧ Below w.heap.size w w'

theorem push_nil (a b : Int) (w : World) : Calls Try.prog 16 #[.pointer none, .agg #[.int .i64 a, .int .i64 b]] w fun e w' => e = .returned (.tuple #[]) ∧ Below w.heap.size w w' := by
  go_enter Try.func16, Try.ntmps16
  go_wp2
  refine bodyPost_ret (results_none rfl _ _ _) rfl ?_
  exact ⟨rfl, (Below.refl _ _).alloc (Nat.le_refl _) _⟩
theorem pop_nil (w : World) : Calls Try.prog 24 #[.pointer none] w fun e w' => e = .returned (.tuple #[.agg #[.int .i64 0, .int .i64 0], .bool false]) ∧ Below w.heap.size w w' := by
  go_enter Try.func24, Try.ntmps24
  go_wp2
  refine bodyPost_ret (v := .tuple #[.agg #[.int .i64 0, .int .i64 0], .bool false]) (by simp [results, Try.results24, go_sem]) rfl ⟨rfl, ?_⟩
  go_light
  exact (((Below.refl _ _).alloc (Nat.le_refl _) _).alloc (by simp) _)
theorem peek_nil (w : World) : Calls Try.prog 25 #[.pointer none] w fun e w' => e = .returned (.tuple #[.agg #[.int .i64 0, .int .i64 0], .bool false]) ∧ Below w.heap.size w w' := by
  go_enter Try.func25, Try.ntmps25
  go_wp2
  refine bodyPost_ret (v := .tuple #[.agg #[.int .i64 0, .int .i64 0], .bool false]) (by simp [results, Try.results25, go_sem]) rfl ⟨rfl, ?_⟩
  go_light
  exact (((Below.refl _ _).alloc (Nat.le_refl _) _).alloc (by simp) _)
theorem len_nil (w : World) : Calls Try.prog 30 #[.pointer none] w fun e w' => e = .returned (.int .i64 0) ∧ w = w' := by
  go_enter Try.func30, Try.ntmps30
  go_wp2
  go_ret
  exact ⟨rfl, rfl⟩
theorem sorted_nil (w : World) : Calls Try.prog 32 #[.pointer none] w fun e w' => e = .returned (.slice none 0 0) ∧ w = w' := by
  go_enter Try.func32, Try.ntmps32
  go_wp2
  go_ret
  exact ⟨rfl, rfl⟩
theorem remove_nil (f : Value) (w : World) : Calls Try.prog 29 #[.pointer none, f] w fun e w' => e = .returned (.int .i64 0) ∧ w = w' := by
  go_enter Try.func29, Try.ntmps29
  go_wp2
  go_ret
  exact ⟨rfl, rfl⟩
theorem nil_eq_nil56 (w : World) : (Go.binOp .eql 56 .nilFunc .nilFunc).run Try.prog w = .ok (.bool true) w := by kernel_rfl
theorem remove_nofun (a : Addr) (w : World) : Calls Try.prog 29 #[.pointer (some a), .nilFunc] w fun e w' => e = .returned (.int .i64 0) ∧ w = w' := by
  have q := nil_eq_nil56
  go_enter Try.func29, Try.ntmps29
  go_wp2
  go_ret
  exact ⟨rfl, rfl⟩

set_option maxHeartbeats 2000000 in
set_option maxRecDepth 1000000 in
theorem nil_walk (ao : Option Addr) (n cap : Nat) (l : List (Int × Int)) (w : World) (hA : Arr2 w (.slice ao n cap) l) (hl : l.length = n) (_hnm : n ≤ maxLen) : Calls Try.prog 8 #[.slice ao n cap] w (TrueEndN w) := by
  have HL := Lib.hid hl
  have HA := Lib.hid hA
  clear hA hl
  by_cases hbig : 100 < n
  · have hbig' : (100 : Int) < (n : Int) := by omega
    go_enter Try.func8, Try.ntmps8
    go_wp2_with (go_at_call 11; refine (awake_any _).mono ?_; rintro e w1 ⟨rfl, hb1⟩)
    go_ret
    exact ⟨rfl, hb1⟩
  · have hsm : (n : Int) ≤ 100 := by omega
    have hsm' : n ≤ 100 := by omega
    clear hbig
    go_enter Try.func8, Try.ntmps8
    go_wp2_with fail
    refine (awake_any _).mono ?_
    rintro e w1 ⟨rfl, hb1⟩
    have HB1 := Lib.hid hb1
    clear hb1
    go_wp2_with fail
    go_loopg [18] (n - 0) (fun g jv wr => ∃ j : Nat, jv = .int .i64 j ∧ j ≤ n ∧ Below w.heap.size w wr ∧ n ≤ g + j)
    case atStart => exact ⟨0, rfl, Nat.zero_le _, HB1.out, by omega⟩
    case round =>
      clear HB1
      obtain ⟨j, rfl, hjn, hB, hg⟩ := hrel
      have HB := Lib.hid hB
      clear hB
      by_cases hlt : j < n
      · have hlt' : (j : Int) < (n : Int) := by omega
        have hjl : j < l.length := by have := HL.out; omega
        obtain ⟨bb, off, rfl, hbw, c0, c1⟩ := Arr2.at (HA.out.below HB.out) j hjl
        go_wp2_with fail
        refine (push_nil _ _ _).mono ?_
        rintro e w2 ⟨rfl, hb2⟩
        have HB2 := Lib.hid ((HB.out.alloc HB.out.size (.cells #[.int .i64 l[j].1, .int .i64 l[j].2] 26)).trans (hb2.mono (HB.out.alloc HB.out.size _).size))
        clear hb2
        go_wp2_with fail
        go_roundg (n - (j + 1))
        case measure => go_light; omega
        case rel => go_light; exact ⟨j + 1, by go_num, by omega, HB2.out, by omega⟩
      · obtain rfl : j = n := by omega
        go_wp2_with fail
        refine (pop_nil _).mono ?_
        rintro e w2 ⟨rfl, hb2⟩
        have HB2 := Lib.hid (HB.out.trans (hb2.mono HB.out.size))
        clear hb2
        go_wp2_with fail
        refine (peek_nil _).mono ?_
        rintro e w3 ⟨rfl, hb3⟩
        have hz : w2.heap.size < w3.heap.size := by have := hb3.size; simp at this; omega
        have hx : w3.heap[w2.heap.size]? = some (.cells #[.int .i64 0, .int .i64 0] 26 (0, 0)) := by
          rw [hb3.block _ (by simp)]; exact heap_alloc_new w2 _
        have HB3 := Lib.hid ((HB2.out.alloc HB2.out.size (.cells #[.int .i64 0, .int .i64 0] 26)).trans (hb3.mono (HB2.out.alloc HB2.out.size _).size))
        have HX := Lib.hid hx
        clear hb3 hx
        go_wp2_with fail
        have hA3 := HA.out.below (HB3.out.alloc HB3.out.size (.cells #[.int .i64 0, .int .i64 0] 26))
        refine (pushed_any ao j cap l _ hA3 (by omega) HL.out).mono ?_
        rintro e w4 ⟨rfl, v4, hH4, hb4, _⟩
        have hx4 : w4.heap[w2.heap.size]? = some (.cells #[.int .i64 0, .int .i64 0] 26 (0, 0)) := by
          rw [hb4.block _ (by simp; omega), Below.heap_alloc w3 _ _ hz]; exact HX.out
        have hy4 : w4.heap[w3.heap.size]? = some (.cells #[.int .i64 0, .int .i64 0] 26 (0, 0)) := by
          rw [hb4.block _ (by simp)]; exact heap_alloc_new w3 _
        have x0 := cell_of_row w4 _ 0 _ _ _ hx4
        have x1 := cell_of_row w4 _ 1 _ _ _ hx4
        have y0 := cell_of_row w4 _ 0 _ _ _ hy4
        have y1 := cell_of_row w4 _ 1 _ _ _ hy4
        simp at x0 x1 y0 y1
        have hB4 := (HB3.out.alloc HB3.out.size (.cells #[.int .i64 0, .int .i64 0] 26)).trans (hb4.mono (HB3.out.alloc HB3.out.size _).size)
        have HB4 := Lib.hid hB4
        have HH4 := Lib.hid hH4
        have hsz : ((l.length : Int) == (j : Int)) = true := by have := HL.out; simp [this]
        clear hb4 hx4 hy4 hB4 hH4 hA3
        have hp4 : (w3.alloc (.cells #[.int .i64 0, .int .i64 0] 26)).heap.size = w3.heap.size + 1 := by simp
        have hH5 := HH4.out
        rw [hp4] at hH5
        have HH5 := Lib.hid hH5
        clear hp4 hH5 HH4
        go_wp2_with fail
        refine (new_nil _).mono ?_
        rintro e w5 ⟨rfl, rfl⟩
        go_wp2_with fail
        refine (len_nil _).mono ?_
        rintro e w5 ⟨rfl, rfl⟩
        go_wp2_with fail
        refine (sorted_nil _).mono ?_
        rintro e w5 ⟨rfl, rfl⟩
        go_wp2_with fail
        refine (remove_nil _ _).mono ?_
        rintro e w5 ⟨rfl, rfl⟩
        go_wp2_with fail
        refine (remove_nofun _ _).mono ?_
        rintro e w5 ⟨rfl, rfl⟩
        go_wp2_with fail
        refine (len_any _ _ _ _ _ _ HH5.out).mono ?_
        rintro e w5 ⟨rfl, rfl⟩
        have hz1 : ((build (fun x => x) (its 0 l)).size : Int) = (j : Int) := by rw [build_size, its_len]; have := HL.out; omega
        rw [hz1]
        go_wp2_with fail
        go_ret
        go_light
        exact ⟨by simp, HB4.out⟩
end Go.Proofs.Ytjdkaagkaambkaa
