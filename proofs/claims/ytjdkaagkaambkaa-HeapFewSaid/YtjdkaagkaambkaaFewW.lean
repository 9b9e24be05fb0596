/- The walk of HeapFew: for every list of sixteen-bit numbers it answers true and leaves what was there. -/
import Derived.Test.YtjdkaagkaambkaaFe
import Derived.Test.YtjdkaagkaambkaaH
import Derived.Test.YtjdkaagkaambkaaQ
namespace Go.Proofs.Ytjdkaagkaambkaa
open Go.RowKit Go.Proofs

def WordsU (w : World) (v : Value) (l : List Int) : Prop := ∃ ao cap, v = .slice ao l.length cap ∧
  (0 < l.length → ∃ b off, ao = some ⟨b, off, none⟩ ∧ b < w.heap.size ∧ ∀ i (h : i < l.length), w.cell? ⟨b, off + i, none⟩ = some (.int .u16 l[i]))
theorem WordsU.below {w w' : World} {v : Value} {l : List Int} (h : WordsU w v l) (hb : Below w.heap.size w w') : WordsU w' v l := by
  obtain ⟨ao, cap, hv, h⟩ := h
  refine ⟨ao, cap, hv, fun h0 => ?_⟩
  obtain ⟨b, off, ha, hlt, hc⟩ := h h0
  exact ⟨b, off, ha, Nat.lt_of_lt_of_le hlt hb.size, fun i hi => by rw [(bcell hb).1 _ _ hlt]; exact hc i hi⟩
theorem WordsU.at {w : World} {ao : Option Addr} {n cap : Nat} {l : List Int} (h : WordsU w (.slice ao n cap) l) (j : Nat) (hj : j < l.length) :
    ∃ bb off, ao = some ⟨bb, off, none⟩ ∧ bb < w.heap.size ∧ w.cell? ⟨bb, off + j, none⟩ = some (.int .u16 l[j]) := by
  obtain ⟨ao', cap', e, h⟩ := h
  simp only [Value.slice.injEq] at e
  obtain ⟨rfl, _, _⟩ := e
  obtain ⟨bb, off, h1, h2, h3⟩ := h (by omega)
  exact ⟨bb, off, h1, h2, h3 j hj⟩

theorem run19 : RunOK 19 := fun args w => by go_simp
def TrueEndF (w : World) (e : Ending) (w' : World) : Prop := e = .returned (.bool true) ∧ Below w.heap.size w w'
theorem HU.zero {B : Nat} {w : World} {p q : Nat} {v : Value} {n : Nat} {nx k : Int} (h : HU B w p q v n nx k) : HU B (w.setCell ⟨q, 0, none⟩ (.int .i64 0)) p q v n nx 0 ∧ Below B w (w.setCell ⟨q, 0, none⟩ (.int .i64 0)) := by
  have hg : w.grownBy (w.setCell ⟨q, 0, none⟩ (.int .i64 0)) (some q) := ⟨rfl, rfl, rfl, by simp, fun k _ hk => heap_setCell_other w ⟨q, 0, none⟩ k _ (fun e => hk (by rw [e]))⟩
  exact h.count hg (by have := heap_setCell_same w q 0 _ _ (.int .i64 0) h.cnt; simpa using this)

set_option maxHeartbeats 8000000 in
set_option maxRecDepth 1000000 in
theorem few_walk (ao : Option Addr) (n cap : Nat) (l : List Int) (w : World) (hA : WordsU w (.slice ao n cap) l) (hl : l.length = n) (_hnm : n ≤ maxLen) : Calls Try.prog 5 #[.slice ao n cap] w (TrueEndF w) := by
  have HL := Lib.hid hl
  have HA := Lib.hid hA
  clear hA hl
  by_cases hbig : 500 < n
  · have hbig' : (500 : Int) < (n : Int) := by omega
    go_enter Try.func5, Try.ntmps5
    go_wp2_with (go_at_call 11; refine (awake_any _).mono ?_; rintro e w1 ⟨rfl, hb1⟩)
    go_ret
    exact ⟨rfl, hb1⟩
  · have hsm : (n : Int) ≤ 500 := by omega
    have hsm' : n ≤ 500 := by omega
    clear hbig
    go_enter Try.func5, Try.ntmps5
    go_wp2_with fail
    refine (awake_any _).mono ?_
    rintro e w1 ⟨rfl, hb1⟩
    have HB1 := Lib.hid hb1
    clear hb1
    go_wp2_with fail
    refine (new_u w1.heap.size _).mono ?_
    rintro e w2 ⟨rfl, hw2⟩
    have hsz : (w1.alloc (.cells #[.int .i64 0] 3)).heap.size = w1.heap.size + 1 := by simp
    have h0 : HU w.heap.size w2 (w1.heap.size + 1) w1.heap.size (.slice none 0 0) 0 0 0 ∧ Below w.heap.size w w2 := by
      have hq : w2.heap[w1.heap.size]? = some (.cells #[.int .i64 0] 3 (0, 0)) := by rw [← hw2, heap_alloc_old _ _ (by simp)]; exact heap_alloc_new w1 _
      have hp : w2.heap[w1.heap.size + 1]? = some (.cells #[cntF w1.heap.size, .slice none 0 0, .int .i64 0] 71 (0, 0)) := by
        rw [← hw2]
        have := heap_alloc_new (w1.alloc (.cells #[.int .i64 0] 3)) (.cells #[cntF w1.heap.size, .slice none 0 0, .int .i64 0] 71)
        rwa [hsz] at this
      refine ⟨⟨hp, ⟨[], rfl, World.ownsRow_nil _ _ _ _⟩, hq, Nat.le_succ_of_le HB1.out.size, HB1.out.size, by omega⟩, ?_⟩
      rw [← hw2]
      exact (HB1.out.alloc HB1.out.size _).alloc (by have := HB1.out.size; simp; omega) _
    obtain ⟨h01, h02⟩ := h0
    have HH0 := Lib.hid h01
    have HB0 := Lib.hid h02
    clear h01 h02 hw2
    rw [hsz]
    clear hsz
    generalize w1.heap.size + 1 = P at *
    generalize w1.heap.size = C at *
    go_wp2_with fail
    go_loopg [20] (n - 0) (fun g jv wr => ∃ (j : Nat) (v : Value) (k : Int) (wx : World), wx = wr ∧ jv = .int .i64 j ∧ j ≤ n ∧ n ≤ g + j ∧ HU w.heap.size wx P C v j j k ∧ Below w.heap.size w wx)
    case atStart => exact ⟨0, _, 0, _, rfl, rfl, Nat.zero_le _, by omega, HH0.out, HB0.out⟩
    case round =>
      clear HH0 HB0
      obtain ⟨j, v, k, wr, rfl, rfl, hjn, hg, hH, hB⟩ := hrel
      have HH := Lib.hid hH
      have HB := Lib.hid hB
      clear hH hB
      by_cases hlt : j < n
      · have hlt' : (j : Int) < (n : Int) := by omega
        have hjl : j < l.length := by have := HL.out; omega
        have hwj : IntKind.i64.wrap ((j : Int) + 1) = (j : Int) + 1 := IntWalk.i64_in _ (by omega)
        obtain ⟨lb, lof, rfl, hlb, d0⟩ := WordsU.at (HA.out.below HB.out) j hjl
        obtain ⟨x, hx⟩ : ∃ x, l[j] = x := ⟨_, rfl⟩
        rw [hx] at d0
        have q0 : wr.cell? ⟨C, 0, none⟩ = some (.int .i64 k) := cell_of_row _ _ 0 _ _ _ HH.out.cnt
        have f0 : wr.frozen? ⟨C, 0, none⟩ = false := by simp [World.frozen?, HH.out.cnt]
        obtain ⟨hz1, hz2⟩ := HH.out.zero
        have HZ := Lib.hid hz1
        have HBz := Lib.hid (HB.out.trans hz2)
        clear hx hz1 hz2
        go_wp2_with fail
        refine (push_u w.heap.size _ P C v j j 0 x HZ.out (Int.le_refl _) (by omega) (by omega) (by omega) (by omega)).mono ?_
        rintro e w3 ⟨rfl, v3, k3, h1, h2, hH3, hb3⟩
        have hd := bts_pow (j + 1) (dep j) (dep_pow j)
        have hbl := bts_le (j + 1)
        obtain ⟨b, hb⟩ : ∃ b, bts (j + 1) = b := ⟨_, rfl⟩
        rw [hb] at hd hbl
        have HLen : ∀ u : Ext w3, Calls Try.prog 21 #[.pointer (some ⟨P, 0, none⟩)] u.1 fun e w' => e = .returned (.int .i64 ((j : Int) + 1)) ∧ Below u.1.heap.size u.1 w' := fun u =>
          (len_u w.heap.size u.1 P C v3 (j + 1) (j + 1) k3 (hH3.below u.2)).mono fun e w' ⟨h1, h2⟩ => ⟨by rw [h1]; exact congrArg (fun x => Ending.returned (.int .i64 x)) (by omega), by rw [h2]; exact Below.refl _ _⟩
        have HBits : ∀ u : Ext w3, Calls Try.prog 19 #[.int .i64 ((j : Int) + 1)] u.1 fun e w' => e = .returned (.int .i64 (b : Int)) ∧ Below u.1.heap.size u.1 w' := fun u =>
          (by have h := bits_u (j + 1) u.1 (by omega)
              rw [hb, (by omega : (((j + 1 : Nat) : Int)) = (j : Int) + 1)] at h
              exact h.mono fun e w' ⟨h1, h2⟩ => ⟨h1, by rw [h2]; exact Below.refl _ _⟩)
        have q3 := Ext.cell (cell_of_row w3 C 0 _ _ _ hH3.cnt)
        have HH3 := Lib.hid hH3
        have HB3 := Lib.hid (HBz.out.trans hb3)
        have w1_ : IntKind.i64.wrap (1 + (b : Int)) = 1 + (b : Int) := IntWalk.i64_in _ (by omega)
        have w2_ : IntKind.i64.wrap (4 * (1 + (b : Int))) = 4 * (1 + (b : Int)) := IntWalk.i64_in _ (by omega)
        have t1 : decide (k3 > 4 * (1 + (b : Int))) = false := decide_eq_false (by omega)
        have t2 : decide (4 * (1 + (b : Int)) < k3) = false := decide_eq_false (by omega)
        have hrun : ∀ args w, Sem.run Try.prog (callFunc 19 args) w = .ok (.enter 19 args) w := run19
        have HLe := Lib.hid HLen
        have HBi := Lib.hid HBits
        clear hH3 hb3 hb HLen HBits q0 f0 d0
        go_wp2_with fail
        refine wq_region (by kernel_rfl) (by kernel_rfl) ?_
        repeat (refine Wq.step (fun K hK => ?_); go_simp; first | (refine hK _ ?_; clear hK K) | (refine ⟨_, fun _ => rfl, hK _ ?_⟩; clear hK K) | (apply Exists.intro; refine ⟨fun _ => ?_, hK _ ?_⟩; (first | exact Ext.call _ (HLe.out _) | exact Ext.call _ (HBi.out _)); clear hK K))
        refine Wq.nil ?_
        rintro _ ⟨u, rfl⟩
        have HH4 := Lib.hid (HH3.out.below u.2)
        have HB4 := Lib.hid (HB3.out.trans (u.2.mono HB3.out.size))
        clear q3
        go_wp2_with fail
        go_roundg (n - (j + 1))
        case measure => go_light; omega
        case rel => go_light; exact ⟨j + 1, v3, k3, _, rfl, by go_num, by omega, by omega, by have h := HH4.out; rwa [(by omega : (j : Int) + 1 = ((j + 1 : Nat) : Int))] at h, HB4.out⟩
      · obtain rfl : j = n := by omega
        go_wp2_with fail
        go_loopg [38] (j - 0) (fun g iv wq => ∃ (i m : Nat) (v : Value) (k : Int) (wx : World), wx = wq ∧ iv = .int .i64 i ∧ i + m = j ∧ j ≤ g + i ∧ HU w.heap.size wx P C v m j k ∧ Below w.heap.size w wx)
        case atStart => exact ⟨0, j, v, k, _, rfl, rfl, by omega, by omega, HH.out, HB.out⟩
        case round =>
          clear HH HB
          obtain ⟨i, m, v2, k2, wq, rfl, rfl, him, hg2, hH, hB⟩ := hrel
          have HH := Lib.hid hH
          have HB := Lib.hid hB
          clear hH hB
          by_cases hlt2 : i < j
          · have hlt2' : (i : Int) < (j : Int) := by omega
            have hwi : IntKind.i64.wrap ((i : Int) + 1) = (i : Int) + 1 := IntWalk.i64_in _ (by omega)
            obtain ⟨m', rfl⟩ : ∃ m', m = m' + 1 := ⟨m - 1, by omega⟩
            have q0 : wq.cell? ⟨C, 0, none⟩ = some (.int .i64 k2) := cell_of_row _ _ 0 _ _ _ HH.out.cnt
            have f0 : wq.frozen? ⟨C, 0, none⟩ = false := by simp [World.frozen?, HH.out.cnt]
            obtain ⟨hz1, hz2⟩ := HH.out.zero
            have HZ := Lib.hid hz1
            have HBz := Lib.hid (HB.out.trans hz2)
            have hrun : ∀ args w, Sem.run Try.prog (callFunc 19 args) w = .ok (.enter 19 args) w := run19
            clear hz1 hz2
            go_wp2_with fail
            refine (len_u w.heap.size _ P C v2 (m' + 1) j 0 HZ.out).mono ?_
            rintro e w3 ⟨rfl, rfl⟩
            go_wp2_with fail
            refine (bits_u (m' + 1) _ (by omega)).mono ?_
            rintro e w4 ⟨rfl, rfl⟩
            have hbl := bts_le (m' + 1)
            have hbp : ∀ r, r = 0 ∨ 2 ^ r ≤ m' → r ≤ bts (m' + 1) := fun r h => by
              rcases h with h | h
              · omega
              · have := bts_pow (m' + 1) r (by omega); omega
            obtain ⟨b, hb⟩ : ∃ b, bts (m' + 1) = b := ⟨_, rfl⟩
            rw [hb] at hbl hbp ⊢
            have HBp := Lib.hid hbp
            clear hb hbp q0 f0
            have w1_ : IntKind.i64.wrap (1 + (b : Int)) = 1 + (b : Int) := IntWalk.i64_in _ (by omega)
            have w2_ : IntKind.i64.wrap (4 * (1 + (b : Int))) = 4 * (1 + (b : Int)) := IntWalk.i64_in _ (by omega)
            go_wp2_with fail
            refine (pop_u w.heap.size _ P C m' v2 j 0 HZ.out (Int.le_refl _) (by omega) (by omega)).mono ?_
            rintro e w5 ⟨a, rfl, v5, k5, r, h1, h2, h3, hH5, hb5⟩
            have hrb := HBp.out r h3
            have q5 : w5.cell? ⟨C, 0, none⟩ = some (.int .i64 k5) := cell_of_row _ _ 0 _ _ _ hH5.cnt
            have hle : k5 ≤ 4 * (1 + (b : Int)) := by omega
            have HH5 := Lib.hid hH5
            have HB5 := Lib.hid (HBz.out.trans hb5)
            clear h3 hH5 hb5
            go_wp2_with fail
            go_roundg (j - (i + 1))
            case measure => go_light; omega
            case rel => go_light; exact ⟨i + 1, m', v5, k5, _, rfl, by go_num, by omega, by omega, HH5.out, HB5.out⟩
          · obtain rfl : i = j := by omega
            obtain rfl : m = 0 := by omega
            go_wp2_with fail
            refine (len_u w.heap.size _ P C v2 0 i k2 HH.out).mono ?_
            rintro e w3 ⟨rfl, rfl⟩
            go_wp2_with fail
            go_ret
            go_light
            exact ⟨rfl, HB.out⟩
end Go.Proofs.Ytjdkaagkaambkaa
