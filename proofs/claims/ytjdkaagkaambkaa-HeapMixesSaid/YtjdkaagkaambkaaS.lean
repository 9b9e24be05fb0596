/- Sorted of the heap, by a contract. -/
import Derived.Test.YtjdkaagkaambkaaH
import Derived.Test.YtjdkaagkaambkaaQ
import Derived.Laws.EntriesVeiled
import Derived.Deep.Onto
namespace Go.Proofs.Ytjdkaagkaambkaa
open Go.RowKit Go.Proofs

theorem step_own {w : World} {ops : Array Oper} {o : Oper} {a : Act} {K : Act → World → Prop} {Q : Exit → Act → World → Prop} {E : Prop} (hgd : o.guard = none) (s x : Operand) (t : TypeId)
    (ho : o.op = .call { callee := .builtin .append, args := #[s, x], argTypes := #[t, t] })
    (base : Nat) (e : TypeId) (i : TypeInfo) (z : Value) (size bytes : Nat) (ht : Try.prog.underlying t = some (.slice e)) (hi : Try.prog.info? e = some i) (hz : i.zero = some z)
    (hsize : i.size = size) (hby : i.bytes = bytes) (hzs : z.cells.size = size) (hsz : 0 < size)
    (v : Value) (n : Nat) (xs : List Value) (hs : a.eval s = v) (hown : w.ownsRow base e size v n xs)
    (ad : Addr) (m c : Nat) (news : List Value) (hx : a.eval x = .slice (some ad) m c) (hl : news.length = m * size) (hnews : ∀ j u, news[j]? = some u → w.cell? (ad.add j) = some u) (h1 : ∀ u ∈ news, u.oneCell' = true)
    (h63 : n + m ≤ maxLen) (hbytes : (n + m) * bytes ≤ 140737488355328) (hbase : base ≤ w.heap.size)
    (h : ∀ v' w', w'.ownsRow base e size v' (n + m) (xs ++ news) → w.grownBy w' v.ownBlock → K (a.put o.dst v') w') :
    if Region.wanted o (yielded ops a.tmps) = true then Oper.wp Try.prog o a w K Q else E := by
  have hw : Region.wanted o (yielded ops a.tmps) = true := by simp [Region.wanted, hgd]
  rw [if_pos hw]
  exact wp_append_own w s x t ho base e i z size bytes ht hi hz hsize hby hzs hsz v n xs hs hown ad m c news hx hl hnews h1 h63 hbytes hbase (fun v' w' h2 h3 _ => h v' w' h2 h3)

theorem step_own_none {w : World} {ops : Array Oper} {o : Oper} {a : Act} {K : Act → World → Prop} {Q : Exit → Act → World → Prop} {E : Prop} (hgd : o.guard = none) (s x : Operand) (t : TypeId)
    (ho : o.op = .call { callee := .builtin .append, args := #[s, x], argTypes := #[t, t] })
    (base : Nat) (e : TypeId) (i : TypeInfo) (size : Nat) (ht : Try.prog.underlying t = some (.slice e)) (hi : Try.prog.info? e = some i)
    (v : Value) (n : Nat) (xs : List Value) (hs : a.eval s = v) (hown : w.ownsRow base e size v n xs) (hx : a.eval x = .slice none 0 0)
    (h : K (a.put o.dst v) w) : if Region.wanted o (yielded ops a.tmps) = true then Oper.wp Try.prog o a w K Q else E := by
  have hw : Region.wanted o (yielded ops a.tmps) = true := by simp [Region.wanted, hgd]
  rw [if_pos hw]
  have hrun := run_append_owned_none (P := Try.prog) (w := w) base t o.type e i size ht hi v n xs hown
  unfold Oper.wp
  simp [execOp, ho, resolve, invoke, builtin, hs, hx, hrun, Result.andThen]
  exact h

theorem alloc2_old (w : World) (o1 o2 : Obj) : ((w.alloc o1).alloc o2).heap[w.heap.size]? = some o1 := by
  rw [heap_alloc_old _ _ (by simp), heap_alloc_new]
theorem own_empty {w : World} {B base : Nat} (h : w.heap[B]? = some (.cells #[] 67 (0, 0))) (hB : base ≤ B) : w.ownsRow base 67 3 (.slice (some ⟨B, 0, none⟩) 0 0) 0 [] :=
  ⟨rfl, .inr ⟨B, 0, #[], rfl, hB, h, Nat.le_refl _, Nat.zero_le _, rfl, rfl⟩⟩
theorem own_form {w : World} {base e size n : Nat} {v : Value} {xs : List Value} (h : w.ownsRow base e size v n xs) : ∃ ao cap, v = .slice ao n cap := by
  rcases h.2 with ⟨h1, h2⟩ | ⟨g, cap, cur, h1, _⟩
  · exact ⟨none, 0, by rw [h1, h2]⟩
  · exact ⟨_, cap, h1⟩
theorem srt_cells {w a w1 : World} {p fid : Nat} {v : Value} {xs : Array It} {nx : Int} {r : Option Nat} (hH : HeapAt w p fid v xs nx) (hb : Below w.heap.size w a) (hg : a.grownBy w1 r) (hr : ∀ k, r = some k → w.heap.size ≤ k) :
    w1.cell? ⟨p, 0, none⟩ = some (.func (.func fid) #[] #[]) ∧ w1.cell? ⟨p, 1, none⟩ = some v ∧ p < w1.heap.size := by
  have hst : w1.heap[p]? = w.heap[p]? := by
    rw [hg.block p (Nat.lt_of_lt_of_le hH.lt hb.size) (fun e => by have := hr p e.symm; have := hH.lt; omega), hb.block p hH.lt]
  rw [hH.st] at hst
  exact ⟨cell_of_row w1 p 0 _ _ _ hst, cell_of_row w1 p 1 _ _ _ hst, (Array.getElem?_eq_some_iff.1 hst).1⟩
theorem srt_box {a w1 : World} {r : Option Nat} {B : Nat} (hg : a.grownBy w1 r) (hB : a.heap[B]? = some (.cells #[.nilFunc, .slice none 0 0, .int .i64 0] 65 (0, 0))) (hr : some B ≠ r) :
    w1.cell? ⟨B, 0, none⟩ = some .nilFunc ∧ w1.cell? ⟨B, 1, none⟩ = some (.slice none 0 0) ∧ w1.cell? ⟨B, 2, none⟩ = some (.int .i64 0) ∧ ∀ o, w1.frozen? ⟨B, o, none⟩ = false := by
  have hst : w1.heap[B]? = some (.cells #[.nilFunc, .slice none 0 0, .int .i64 0] 65 (0, 0)) := by
    rw [hg.block B (Array.getElem?_eq_some_iff.1 hB).1 hr]; exact hB
  exact ⟨cell_of_row w1 B 0 _ _ _ hst, cell_of_row w1 B 1 _ _ _ hst, cell_of_row w1 B 2 _ _ _ hst, fun o => by simp [World.frozen?, hst]⟩
theorem srt_news {w a : World} {p fid g n cap : Nat} {xs : Array It} {nx : Int} (hH : HeapAt w p fid (.slice (some ⟨g, 0, none⟩) n cap) xs nx) (hb : Below w.heap.size w a) :
    ∀ j u, (flat xs.toList)[j]? = some u → a.cell? ((⟨g, 0, none⟩ : Addr).add j) = some u := (hH.below hb).row.cells rfl
theorem flat_one (l : List It) : ∀ u ∈ flat l, u.oneCell' = true := by
  induction l with
  | nil => intro u hu; cases hu
  | cons x l ih =>
    intro u hu
    simp only [flat, List.mem_cons] at hu
    rcases hu with rfl | rfl | rfl | hu
    · rfl
    · rfl
    · rfl
    · exact ih u hu

def SortedMid (w : World) (fid : Nat) (xs : Array It) (t3 : Value) (w' : World) : Prop :=
  ∃ (c : Nat) (v' : Value), t3 = .pointer (some ⟨c, 0, none⟩) ∧ HeapAt w' c fid v' xs 0 ∧ Below w.heap.size w w' ∧ w.heap.size ≤ c ∧ ∀ k, v'.ownBlock = some k → w.heap.size ≤ k

theorem srt_fin1 {w a w1 : World} {fid n cap1 : Nat} {ao1 : Option Addr} {xs : Array It} {r : Option Nat} (hb : Below w.heap.size w a) (hg : a.grownBy w1 r) (hr : ∀ k, r = some k → w.heap.size ≤ k) (hn : xs.size = n) (hs : xs.size ≤ 900)
    (hown : w1.ownsRow w.heap.size 67 3 (.slice ao1 (0 + n) cap1) (0 + n) ([] ++ flat xs.toList)) :
    SortedMid w fid xs (.pointer (some ⟨w1.heap.size, 0, none⟩)) (w1.alloc (.cells #[.func (.func fid) #[] #[], .slice ao1 n cap1, .int .i64 0] 65)) := by
  have hb1 : Below w.heap.size w w1 := hb.grown hg hb.size hr
  simp only [Nat.zero_add, List.nil_append] at hown
  refine ⟨w1.heap.size, .slice ao1 n cap1, rfl, ⟨heap_alloc_new _ _, ?_, by omega⟩, hb1.alloc hb1.size _, hb1.size, fun k hk => (hown.lt k hk).1⟩
  unfold Row
  rw [hn]
  exact World.ownsRow.mono (hown.alloc _) (Nat.zero_le _)
theorem srt_fin2 {w a w1 : World} {fid n cap1 B : Nat} {ao1 : Option Addr} {xs : Array It} {r : Option Nat} (hb : Below w.heap.size w a) (hg : a.grownBy w1 r) (hr : ∀ k, r = some k → w.heap.size ≤ k) (hn : xs.size = n) (hs : xs.size ≤ 900)
    (hB : a.heap[B]? = some (.cells #[.nilFunc, .slice none 0 0, .int .i64 0] 65 (0, 0))) (hBr : some B ≠ r) (hBw : w.heap.size ≤ B)
    (hown : w1.ownsRow w.heap.size 67 3 (.slice ao1 (0 + n) cap1) (0 + n) ([] ++ flat xs.toList)) :
    SortedMid w fid xs (.pointer (some ⟨B, 0, none⟩)) (((w1.setCell ⟨B, 0, none⟩ (.func (.func fid) #[] #[])).setCell ⟨B, 1, none⟩ (.slice ao1 n cap1)).setCell ⟨B, 2, none⟩ (.int .i64 0)) := by
  have hb1 : Below w.heap.size w w1 := hb.grown hg hb.size hr
  simp only [Nat.zero_add, List.nil_append] at hown
  have hst : w1.heap[B]? = some (.cells #[.nilFunc, .slice none 0 0, .int .i64 0] 65 (0, 0)) := by
    rw [hg.block B (Array.getElem?_eq_some_iff.1 hB).1 hBr]; exact hB
  have hne : (Value.slice ao1 n cap1).ownBlock ≠ some B := by
    intro e
    rcases hown.2 with ⟨h1, _⟩ | ⟨g, cap, cur, h1, _, hgg, _⟩
    · rw [h1] at e; simp [Value.ownBlock] at e
    · rw [h1] at e
      simp [Value.ownBlock] at e
      subst e
      rw [hst] at hgg
      simp at hgg
  have s1 := heap_setCell_same w1 B 0 _ _ (.func (.func fid) #[] #[]) hst
  have s2 := heap_setCell_same _ B 1 _ _ (.slice ao1 n cap1) s1
  have s3 := heap_setCell_same _ B 2 _ _ (.int .i64 0) s2
  have hg3 : w1.grownBy (((w1.setCell ⟨B, 0, none⟩ (.func (.func fid) #[] #[])).setCell ⟨B, 1, none⟩ (.slice ao1 n cap1)).setCell ⟨B, 2, none⟩ (.int .i64 0)) (some B) :=
    ⟨rfl, rfl, rfl, by simp, fun k _ hk => by
      have hk' : k ≠ B := fun e => hk (by rw [e])
      rw [heap_setCell_other _ ⟨B, 2, none⟩ k _ hk', heap_setCell_other _ ⟨B, 1, none⟩ k _ hk', heap_setCell_other _ ⟨B, 0, none⟩ k _ hk']⟩
  refine ⟨B, .slice ao1 n cap1, rfl, ⟨?_, ?_, by omega⟩, ((hb1.setCell hBw _).setCell hBw _).setCell hBw _, hBw, fun k hk => (hown.lt k hk).1⟩
  · simpa using s3
  · unfold Row
    rw [hn]
    exact World.ownsRow.mono (hown.kept hg3 (.inr hne)) (Nat.zero_le _)

theorem srt_nil1 (w : World) (fid : Nat) {xs : Array It} (hn : xs.size = 0) :
    SortedMid w fid xs (.pointer (some ⟨w.heap.size + 1, 0, none⟩)) (((w.alloc (.cells #[] 67)).alloc (.cells #[.func (.func fid) #[] #[], .slice (some ⟨w.heap.size, 0, none⟩) 0 0, .int .i64 0] 65)).drew) := by
  obtain ⟨h1, h2, h3, h4⟩ := two_alloc w (.cells #[] 67) (.cells #[.func (.func fid) #[] #[], .slice (some ⟨w.heap.size, 0, none⟩) 0 0, .int .i64 0] 65)
  refine ⟨_, _, rfl, ⟨h3, ?_, by omega⟩, h1, by omega, by simp [Value.ownBlock]⟩
  obtain rfl := Array.eq_empty_of_size_eq_zero hn
  exact own_empty h2 (Nat.zero_le _)
theorem srt_nil2 (w : World) (fid : Nat) {xs : Array It} (hn : xs.size = 0) :
    SortedMid w fid xs (.pointer (some ⟨w.heap.size, 0, none⟩)) (((w.alloc (.cells #[.func (.func fid) #[] #[], .slice (some ⟨w.heap.size + 1, 0, none⟩) 0 0, .int .i64 0] 65)).alloc (.cells #[] 67)).drew) := by
  obtain ⟨h1, h2, h3, h4⟩ := two_alloc w (.cells #[.func (.func fid) #[] #[], .slice (some ⟨w.heap.size + 1, 0, none⟩) 0 0, .int .i64 0] 65) (.cells #[] 67)
  refine ⟨_, _, rfl, ⟨h2, ?_, by omega⟩, h1, by omega, by simp [Value.ownBlock]⟩
  obtain rfl := Array.eq_empty_of_size_eq_zero hn
  exact own_empty h3 (Nat.zero_le _)

def SortedRel (w : World) (K : Int → Int) (c fid : Nat) (xs : Array It) (vo : Value) (g : Nat) (wr : World) : Prop :=
  ∃ (out : List (Int × Int)) (v' : Value) (ys : Array It), ys.size ≤ g ∧ out.length + ys.size = xs.size ∧ Row2 w.heap.size wr vo out ∧ HeapAt wr c fid v' ys 0 ∧ Below w.heap.size w wr ∧ (∀ k, v'.ownBlock = some k → w.heap.size ≤ k) ∧
    (Hp.drain (lt K) xs.size xs).map pair = out ++ (Hp.drain (lt K) ys.size ys).map pair

def SortedEnd (w : World) (K : Int → Int) (xs : Array It) (e : Ending) (w' : World) : Prop :=
  ∃ vo, e = .returned vo ∧ Row2 w.heap.size w' vo ((Hp.drain (lt K) xs.size xs).map pair) ∧ Below w.heap.size w w'

set_option maxHeartbeats 4000000 in
set_option maxRecDepth 1000000 in
theorem sorted_any (fid : Nat) (K : Int → Int) (hL : LessOK fid K) (hrun : RunOK fid) (p : Nat) (v : Value) (xs : Array It) (nx : Int) (w : World) (hH : HeapAt w p fid v xs nx) (hs : xs.size ≤ 900) :
    Calls Try.prog 32 #[.pointer (some ⟨p, 0, none⟩)] w (SortedEnd w K xs) := by
  obtain ⟨j0, hj0, hz0, hz1, hz2⟩ := info_parts Try.info67
  obtain ⟨k0, hk0, hy0, hy1, hy2⟩ := info_parts Try.info26
  obtain ⟨c0, c1, c2, cf⟩ := hH.cells
  have hlt := hH.lt
  have n1 : ¬ w.heap.size = p := by omega
  have n2 : ¬ w.heap.size + 1 = p := by omega
  have HH := Lib.hid hH
  have HL := Lib.hid hL
  have HR := Lib.hid hrun
  clear hH hL hrun
  go_enter Try.func32, Try.ntmps32
  go_upto_region 3 with fail
  go_cut [3] (fun t3 w' => SortedMid w fid xs t3 w')
  case first =>
    rcases HH.out.row.2 with ⟨rfl, hn0⟩ | ⟨g, cap, cur, rfl, _, hgg, _⟩
    · have HN := Lib.hid hn0
      clear hn0
      go_region_held3 (fun w' => w'.cell? ⟨p, 0, none⟩ = some (.func (.func fid) #[] #[]) ∧ w'.cell? ⟨p, 1, none⟩ = some (.slice none 0 0))
        (go_keep)
        ((refine step_own_none (by rfl) _ _ _ (by rfl) w.heap.size 67 j0 3 Try.underlying63 hj0 _ 0 [] (by rfl) (by first | exact own_empty (heap_alloc_new w _) (Nat.le_refl _) | exact own_empty (alloc2_new w _ _) (by omega) | exact own_empty (alloc2_old w _ _) (by omega)) (by rfl) ?_))
      all_goals
        go_wp2_with fail
        go_meet
        case rel =>
          go_light
          first
            | exact srt_nil1 w fid HN.out
            | exact srt_nil2 w fid HN.out
    · obtain ⟨n, hn⟩ : ∃ n, xs.size = n := ⟨_, rfl⟩
      have hg : g < w.heap.size := (Array.getElem?_eq_some_iff.1 hgg).1
      rw [hn] at c1 HH
      have HN := Lib.hid hn
      clear hn hgg
      go_region_held3 (fun w' => w'.cell? ⟨p, 0, none⟩ = some (.func (.func fid) #[] #[]) ∧ w'.cell? ⟨p, 1, none⟩ = some (.slice (some ⟨g, 0, none⟩) n cap))
        (first | exact ⟨q0, q1⟩ | go_keep)
        ((refine step_own (by rfl) _ _ _ (by rfl) w.heap.size 67 j0 _ 3 24 Try.underlying63 hj0 hz0 hz1 hz2 rfl (by omega) _ 0 [] (by rfl) (by first | exact own_empty (heap_alloc_new w _) (Nat.le_refl _) | exact own_empty (alloc2_new w _ _) (by omega) | exact own_empty (alloc2_old w _ _) (by omega)) ⟨g, 0, none⟩ n cap (flat xs.toList) (by rfl) (by rw [flat_len, ← HN.out]; simp) (by first | exact srt_news HH.out ((Below.refl _ w).alloc (Nat.le_refl _) _).drew | exact srt_news HH.out (alloc2_below w _ _).drew) (flat_one _) (by have := HN.out; unfold maxLen; omega) (by have := HN.out; omega) (by first | (simp; done) | (simp; omega)) ?_; intro v1 w1 hown1 hgrow1; obtain ⟨ao1, cap1, rfl⟩ := own_form hown1; obtain ⟨q0, q1, q2⟩ := srt_cells HH.out (by first | exact ((Below.refl _ w).alloc (Nat.le_refl _) _).drew | exact (alloc2_below w _ _).drew) hgrow1 (by intro k hk; simp [Value.ownBlock, Act.eval] at hk; omega); first | obtain ⟨z0, z1, z2, zf⟩ := srt_box hgrow1 (alloc2_old w _ _) (by simp [Value.ownBlock, Act.eval]) | obtain ⟨z0, z1, z2, zf⟩ := srt_box hgrow1 (alloc2_new w _ _) (by simp [Value.ownBlock, Act.eval]) | skip))
      all_goals
        go_wp2_with fail
        go_meet
        case rel =>
          go_light
          first
            | exact srt_fin1 ((Below.refl _ w).alloc (Nat.le_refl _) _).drew hgrow1 (by intro k hk; simp [Value.ownBlock, Act.eval] at hk; omega) HN.out hs hown1
            | exact srt_fin2 (alloc2_below w _ _).drew hgrow1 (by intro k hk; simp [Value.ownBlock, Act.eval] at hk; omega) HN.out hs (alloc2_new w _ _) (by simp [Value.ownBlock, Act.eval]) (by omega) hown1
            | exact srt_fin2 (alloc2_below w _ _).drew hgrow1 (by intro k hk; simp [Value.ownBlock, Act.eval] at hk; omega) HN.out hs (alloc2_old w _ _) (by simp [Value.ownBlock, Act.eval]) (by omega) hown1
  case rest =>
    obtain ⟨c, v', rfl, hHc, hBc, hcB, hvB⟩ := hcut
    have hrel0 : Hid (SortedRel w K c fid xs (.slice none 0 0) xs.size wc) := Lib.hid ⟨[], v', xs, Nat.le_refl _, by simp, World.ownsRow_nil _ _ _ _, hHc, hBc, hvB, rfl⟩
    clear hHc hBc hvB c0 c1 c2 cf
    go_wp2_with fail
    go_loopg [4] xs.size (fun g vo wr => SortedRel w K c fid xs vo g wr)
    case atStart => exact hrel0.out
    case round =>
      clear hrel0
      obtain ⟨out, v', ys, hyg, hsz, hrow, hHy, hB, hv, hdr⟩ := hrel
      obtain ⟨ao, m, cap, hm, rfl⟩ : ∃ ao m cap, m = ys.size ∧ v' = .slice ao m cap := by
        obtain ⟨ao, cap, e⟩ := hHy.slice
        exact ⟨ao, _, cap, rfl, e⟩
      obtain ⟨d0, d1, d2, df⟩ := hHy.cells
      have HRow := Lib.hid hrow
      have HHy := Lib.hid hHy
      have HB := Lib.hid hB
      have HV := Lib.hid hv
      have HDr := Lib.hid hdr
      have HSz := Lib.hid hsz
      have HM := Lib.hid hm
      have hyg' : m ≤ xs.size := by omega
      clear hrow hHy hB hv hdr hsz hm
      by_cases h0 : m = 0
      · have hd0 : (m : Int) ≤ 0 := by omega
        have H0 := Lib.hid h0
        clear h0
        go_wp2_with fail
        go_ret
        go_light
        have h1 := HDr.out
        rw [show ys.size = 0 from by rw [← HM.out]; exact H0.out] at h1
        simp only [Hp.drain, List.map_nil, List.append_nil] at h1
        exact ⟨_, rfl, by rw [h1]; exact HRow.out, HB.out⟩
      · have hm0 : (0 : Int) < (m : Int) := by omega
        obtain ⟨q, hq⟩ : ∃ q, ys.size = q + 1 := ⟨ys.size - 1, by have := HM.out; omega⟩
        have HQ := Lib.hid hq
        clear h0 hq
        go_wp2_with fail
        refine (pop_some fid K HL.out HR.out c _ ys 0 _ HHy.out (by have := HQ.out; omega)).mono ?_
        rintro e w1 ⟨rfl, v'', hH1, hS1⟩
        have HH1 := Lib.hid hH1
        have HS1 := Lib.hid hS1
        have hRow1 := Lib.hid (HRow.out.keep HHy.out hS1)
        have hB1 := Lib.hid (HB.out.trans (hS1.below HB.out.size hcB HV.out))
        obtain ⟨a, ha⟩ : ∃ a, ys[0]!.k = a := ⟨_, rfl⟩
        obtain ⟨b, hb⟩ : ∃ a, ys[0]!.n = a := ⟨_, rfl⟩
        rw [ha, hb]
        have HA := Lib.hid ha
        have HBb := Lib.hid hb
        clear hH1 hS1 ha hb d0 d1 d2 df
        go_wp2_with (at_builtin; refine wpList_append_lies _ rfl _ _ 24 rfl w.heap.size 26 k0 _ 2 16 Try.underlying24 hk0 hy0 hy1 hy2 rfl (by omega) u4 out.length (flat2 out) rfl ((World.ownsRow.alloc hRow1.out _).alloc _) ⟨w1.heap.size + 1, 0, none⟩ 1 1 [.int .i64 a, .int .i64 b] rfl rfl (news_pair (alloc2_new w1 _ _)) (one_pair _ _) (by omega) (by have := HSz.out; unfold maxLen; omega) (by have := HSz.out; omega) (by have := hB1.out.size; simp; omega) _ rfl ?_; intro gg cap w2 hown2 hgrow2 hat2 hlt2)
        have HO := Lib.hid hown2
        have HG := Lib.hid hgrow2
        clear hown2 hgrow2 hat2 hlt2
        go_wp2_with fail
        go_roundg q
        case measure => go_light; have := HQ.out; omega
        case rel =>
          go_light
          refine ⟨out ++ [(a, b)], v'', Hp.popM (lt K) ys, ?_, ?_, ?_, ?_, ?_, ?_, ?_⟩
          · rw [Hp.popM_size, HQ.out]; simp
          · rw [Hp.popM_size]; have := HSz.out; have := HQ.out; simp; omega
          · unfold Row2
            rw [flat2_append]
            simpa [flat2] using HO.out
          · exact HH1.out.keepRow hRow1.out (alloc2_below w1 _ _) HG.out
          · exact (hB1.out.trans ((alloc2_below w1 _ _).mono hB1.out.size)).grown HG.out (by have := hB1.out.size; simp; omega) (fun k hk => HRow.out.blk k hk)
          · intro k hk
            rcases HS1.out.row k hk with h | h
            · exact HV.out k h
            · have := HB.out.size; omega
          · have h1 := HDr.out
            rw [HQ.out, drain_succ] at h1
            rw [h1, Hp.popM_size, HQ.out, Nat.add_sub_cancel, List.map_cons, List.append_assoc]
            rw [← HA.out, ← HBb.out]
            rfl
end Go.Proofs.Ytjdkaagkaambkaa
