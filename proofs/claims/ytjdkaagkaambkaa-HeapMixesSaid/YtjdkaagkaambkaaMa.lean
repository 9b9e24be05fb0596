/- A map that the call makes, keyed by items, its elements counts: the look-up and 'm[x]++' at the run of each operation. -/
import Derived.Test.YtjdkaagkaambkaaE
import Derived.Maps.Own
import Derived.WideKeyEntry
import Derived.DeepKeys4
namespace Go.Proofs.Ytjdkaagkaambkaa
open Go.RowKit Go.Proofs Go.Maps Go.WideElems
open Go.ChangeMaps (setBlock heap_setBlock_same heap_setBlock_other modify_eq_set)

theorem m_laidOut : laidOutB Try.prog = true := by kernel_rfl
theorem m_row26 : (26 : TypeId) < Try.prog.types.size := of_decide_eq_true (by kernel_rfl)
theorem m_wide26 : (match Try.prog.underlying 26 with | some (.array _ _) | some (.struct _) => true | _ => false) = true := by rw [Try.underlying26]
theorem m_law : WideMaps.KeyLaw Try.prog 26 := deep_law_laid m_laidOut (m := 2) (by omega) m_row26 (by kernel_rfl) m_wide26
theorem m_keyed : Keyed Try.prog 26 := Keyed.of_law m_law
theorem m_zero (w : World) : (zeroValue 3).run Try.prog w = .ok (.int .i64 0) w := by kernel_rfl
theorem m_keyType : Try.prog.keyType 26 = true := by kernel_rfl

def keyV (x : Int × Int) : Value := .agg #[.int .i64 x.1, .int .i64 x.2]
def Wf2 (x : Int × Int) : Prop := (Lit.int .i64 x.1).wf = true ∧ (Lit.int .i64 x.2).wf = true
theorem keyV_inj {x y : Int × Int} (h : keyV x = keyV y) : x = y := by
  simp [keyV] at h
  exact Prod.ext h.1 h.2
theorem m_cells26 : Try.prog.cellsOf 26 = 2 := by kernel_rfl
theorem m_cells3 : Try.prog.cellsOf 3 = 1 := by kernel_rfl
theorem m_lits3 (d : Nat) (a : Int) (h : (Lit.int .i64 a).wf = true) : Try.prog.keyLits (d + 1) 3 [.int .i64 a] = some [.int .i64 a] := by
  unfold Program.keyLits
  rw [Try.underlying3]
  simp [h]
theorem m_lits (d : Nat) (x : Int × Int) (h : Wf2 x) : Try.prog.keyLits (d + 2) 26 [.int .i64 x.1, .int .i64 x.2] = some [.int .i64 x.1, .int .i64 x.2] := by
  unfold Program.keyLits
  rw [Try.underlying26]
  simp [m_cells26, m_cells3, m_lits3 d _ h.1, m_lits3 d _ h.2]
theorem m_key (x : Int × Int) (h : Wf2 x) : ∃ kl, keyOf Try.prog 26 (keyV x) = some kl := by
  obtain ⟨d, hd⟩ : ∃ d, Try.prog.types.size + 1 = d + 2 := ⟨Try.prog.types.size - 1, by have h1 : (26 : Nat) < Try.prog.types.size := m_row26; omega⟩
  have hf : (keyV x).formed Try.prog 26 = true := by simp [keyV, Value.formed, Try.underlying26, m_cells26]
  unfold keyOf
  rw [Try.underlying26]
  simp only [m_keyType, hf, Bool.and_self, if_true, hd]
  have e : (keyV x).cells.toList = [.int .i64 x.1, .int .i64 x.2] := rfl
  rw [e, m_lits d x h]
  exact ⟨_, rfl⟩

noncomputable abbrev mR : Value → Option (DataW Unit × List MemPlace) := plainElem (H := Unit) Try.prog 3

/-- Block b is a map of at most n entries; what it says of an item is f. -/
structure MapC (w : World) (b n : Nat) (f : Int × Int → Int) (es : Array MapEntry) (clock : Nat) : Prop where
  at_ : w.heap[b]? = some (.map es clock)
  fit : Fit Try.prog 26 mR es clock
  size : es.size ≤ n
  ent : ∀ e ∈ es.toList, ∃ x : Int × Int, Wf2 x ∧ e.key = keyV x ∧ e.val = .int .i64 (f x)
  abs : ∀ x, (∀ e ∈ es.toList, e.key ≠ keyV x) → f x = 0

theorem MapC.lt {w : World} {b n : Nat} {f : Int × Int → Int} {es : Array MapEntry} {clock : Nat} (h : MapC w b n f es clock) : b < w.heap.size := (Array.getElem?_eq_some_iff.1 h.at_).1
theorem MapC.keep {w w' : World} {b n : Nat} {f : Int × Int → Int} {es : Array MapEntry} {clock : Nat} (h : MapC w b n f es clock) (e : w'.heap[b]? = w.heap[b]?) : MapC w' b n f es clock := ⟨by rw [e]; exact h.at_, h.fit, h.size, h.ent, h.abs⟩

/-- The look-up. -/
theorem MapC.look {w : World} {b n : Nat} {f : Int × Int → Int} {es : Array MapEntry} {clock : Nat} (h : MapC w b n f es clock) (x : Int × Int) (hx : Wf2 x) :
    (Instr.lookup 47 (.map (some b)) (keyV x) false).run Try.prog w = .ok (.int .i64 (f x)) w := by
  obtain ⟨kl, hk⟩ := m_key x hx
  rcases fit_look false m_keyed Try.underlying47 (m_zero w) h.at_ h.fit hk with ⟨hrun, hne, _⟩ | ⟨e0, y, he0, hek, hrun, _⟩
  · rw [hrun, h.abs x hne]; rfl
  · obtain ⟨x', _, hk', hv⟩ := h.ent e0 he0
    have : x' = x := keyV_inj (by rw [← hk', hek])
    subst this
    rw [hrun, hv]; rfl

def upd (f : Int × Int → Int) (x : Int × Int) (v : Int) : Int × Int → Int := fun y => if y = x then v else f y

/-- 'm[x]' laid for a store, and the store. -/
theorem MapC.store {w : World} {b n : Nat} {f : Int × Int → Int} {es : Array MapEntry} {clock : Nat} (h : MapC w b n f es clock) (x : Int × Int) (hx : Wf2 x) (hn : n < maxLen) :
    ∃ (v0 : Value) (st : Nat) (es1 : Array MapEntry) (clock1 : Nat), (Instr.mapEntry 47 (.map (some b)) (keyV x)).run Try.prog w = .ok (.tuple #[v0, goInt st]) (setBlock w b (.map es1 clock1)) ∧
      MapC (setBlock w b (.map es1 clock1)) b (n + 1) f es1 clock1 ∧
      ∀ (w2 : World) (v : Int), (Lit.int .i64 v).wf = true → w2.heap[b]? = some (.map es1 clock1) → ∃ es' clock', (Instr.entryStore 47 (.map (some b)) (goInt st) (.int .i64 v)).run Try.prog w2 = .ok () (setBlock w2 b (.map es' clock')) ∧
        MapC (setBlock w2 b (.map es' clock')) b (n + 1) (upd f x v) es' clock' := by
  obtain ⟨kl, hk⟩ := m_key x hx
  have hz : ∀ u : World, (zeroValue 3).run Try.prog u = .ok (.int .i64 0) u := m_zero
  have w0 : (Lit.int .i64 0).wf = true := by decide
  have hroom : es.size < maxLen := Nat.lt_of_le_of_lt h.size hn
  have hinj : ∀ (a a' : Array MapEntry) (c c' : Nat), (Result.ok () (setBlock w b (.map a c)) : Result Unit) = .ok () (setBlock w b (.map a' c')) → a = a' ∧ c = c' := fun a a' c c' e => by
    have e1 : setBlock w b (.map a c) = setBlock w b (.map a' c') := by simpa using e
    have e2 := heap_setBlock_same h.at_ (.map a c)
    rw [e1, heap_setBlock_same h.at_ (.map a' c')] at e2
    simp at e2
    exact ⟨e2.1.symm, e2.2.symm⟩
  obtain ⟨v0, st, es1, clock1, hrun, hcase, hstore⟩ := entry_then_store m_law Try.underlying47 hz h.at_ h.fit hk
  -- what the map holds after a store of a number
  have hupd : ∀ v : Int, (Lit.int .i64 v).wf = true → ∃ E C, (Instr.mapUpdate 47 (.map (some b)) (keyV x) (.int .i64 v)).run Try.prog w = .ok () (setBlock w b (.map E C)) ∧
      (∀ u : World, u.heap[b]? = some (.map E C) → MapC u b (n + 1) (upd f x v) E C) ∧ ((∀ e ∈ es.toList, e.key ≠ keyV x) → E = es.push ⟨keyV x, .int .i64 v, clock⟩ ∧ C = clock + 1) := by
    intro v hv
    obtain ⟨E, C, hr, hF, _, _, _, hall⟩ := fit_store (R' := mR) m_keyed Try.underlying47 h.at_ h.fit hroom (fun _ _ _ _ hz => hz) hk (plainElem_int Try.underlying3 hv)
    have hfin : E.size ≤ es.size + 1 ∧ (∃ e ∈ E.toList, e.key = keyV x) ∧ (∀ e ∈ es.toList, e.key ≠ keyV x → e ∈ E.toList) ∧ ((∀ e ∈ es.toList, e.key ≠ keyV x) → E = es.push ⟨keyV x, .int .i64 v, clock⟩ ∧ C = clock + 1) := by
      rcases m_law.find w hk es.toList h.fit.keys with ⟨h1, h2⟩ | ⟨j, e0, h1, h2, h3⟩
      · have hru : (Instr.mapUpdate 47 (.map (some b)) (keyV x) (.int .i64 v)).run Try.prog w = .ok () (setBlock w b (.map (es.push ⟨keyV x, .int .i64 v, clock⟩) (clock + 1))) := by
          simp [Instr.mapUpdate, run_underlying Try.underlying47, MapKept.run_getObj_map h.at_, m_law.check w false hk, h1, MapKept.run_setObj_map _ h.at_, Result.andThen, setBlock]
        obtain ⟨rfl, rfl⟩ := hinj _ _ _ _ (hr.symm.trans hru)
        exact ⟨by simp, ⟨⟨keyV x, .int .i64 v, clock⟩, by simp, rfl⟩, fun e he _ => by simp; exact .inl (by simpa using he), fun _ => ⟨rfl, rfl⟩⟩
      · have hj : es[j]? = some e0 := by simpa using h2
        have hjl : j < es.toList.length := (List.getElem?_eq_some_iff.1 h2).1
        have hru : (Instr.mapUpdate 47 (.map (some b)) (keyV x) (.int .i64 v)).run Try.prog w = .ok () (setBlock w b (.map (es.modify j (fun e' => { e' with key := keyV x, val := .int .i64 v })) clock)) := by
          simp [Instr.mapUpdate, run_underlying Try.underlying47, MapKept.run_getObj_map h.at_, m_law.check w false hk, h1, hj, h3, m_law.stays w hk, MapKept.run_setObj_map _ h.at_, Result.andThen, setBlock]
        obtain ⟨rfl, rfl⟩ := hinj _ _ _ _ (hr.symm.trans hru)
        have hEl : (es.modify j (fun e' => { e' with key := keyV x, val := .int .i64 v })).toList = es.toList.set j { e0 with key := keyV x, val := .int .i64 v } := by
          rw [Array.toList_modify, modify_eq_set _ _ _ _ h2]
        refine ⟨by simp, ⟨{ e0 with key := keyV x, val := .int .i64 v }, by rw [hEl]; exact List.mem_set hjl _, rfl⟩, fun e he hne => ?_, fun hno => absurd h3 (hno e0 (List.mem_of_getElem? h2))⟩
        rw [hEl]
        obtain ⟨i, hi, rfl⟩ := List.getElem_of_mem he
        have hij : j ≠ i := by
          rintro rfl
          have := (List.getElem?_eq_some_iff.1 h2).2
          exact hne (by rw [this]; exact h3)
        have : (es.toList.set j { e0 with key := keyV x, val := .int .i64 v })[i]'(by simpa using hi) = es.toList[i] := List.getElem_set_ne hij _
        rw [← this]
        exact List.getElem_mem _
    obtain ⟨hs, ⟨ex, hex, hexk⟩, hkeepE, hpush⟩ := hfin
    refine ⟨E, C, hr, fun u hu => ⟨hu, hF, Nat.le_trans hs (Nat.succ_le_succ h.size), fun e he => ?_, fun y hy => ?_⟩, hpush⟩
    · rcases hall e he with ⟨h1, h2⟩ | ⟨h1, h2⟩
      · obtain ⟨y, hy, hyk, hyv⟩ := h.ent e h1
        refine ⟨y, hy, hyk, ?_⟩
        have hne : y ≠ x := fun e => h2 (by rw [hyk, e])
        rw [hyv, upd, if_neg hne]
      · exact ⟨x, hx, h1, by rw [h2, upd, if_pos rfl]⟩
    · have hne : y ≠ x := fun e => hy ex hex (by rw [hexk, e])
      rw [upd, if_neg hne]
      refine h.abs y fun e he hek => ?_
      exact hy e (hkeepE e he (fun e2 => hne (keyV_inj (by rw [← hek, e2])))) hek
  refine ⟨v0, st, es1, clock1, hrun, ?_, fun w2 v hv hw2 => ?_⟩
  · have hat := heap_setBlock_same h.at_ (.map es1 clock1)
    rcases m_law.find w hk es.toList h.fit.keys with ⟨h1, h2⟩ | ⟨j, e0, h1, h2, h3⟩
    · have hru : (Instr.mapEntry 47 (.map (some b)) (keyV x)).run Try.prog w = .ok (.tuple #[.int .i64 0, goInt clock]) (setBlock w b (.map (es.push ⟨keyV x, .int .i64 0, clock⟩) (clock + 1))) := by
        simp [Instr.mapEntry, run_underlying Try.underlying47, MapKept.run_getObj_map h.at_, m_law.check w false hk, h1, hz, MapKept.run_setObj_map _ h.at_, Result.andThen, setBlock]
      have e1 : setBlock w b (.map es1 clock1) = setBlock w b (.map (es.push ⟨keyV x, .int .i64 0, clock⟩) (clock + 1)) := by
        have := hrun.symm.trans hru
        simp at this
        exact this.2
      obtain ⟨E, C, _, hM, hp⟩ := hupd 0 w0
      obtain ⟨rfl, rfl⟩ := hp h2
      have hf : upd f x 0 = f := by
        funext y
        unfold upd
        split
        · rename_i e; rw [e, h.abs x h2]
        · rfl
      have hes : es1 = es.push ⟨keyV x, .int .i64 0, clock⟩ ∧ clock1 = clock + 1 := hinj es1 _ clock1 _ (by rw [e1])
      obtain ⟨rfl, rfl⟩ := hes
      have := hM _ hat
      rwa [hf] at this
    · have hj : es[j]? = some e0 := by simpa using h2
      have hsame : es.modify j (fun e => { e with key := keyV x }) = es := by
        apply Array.ext'
        rw [Array.toList_modify, modify_eq_set _ _ _ _ h2]
        have : ({ e0 with key := keyV x } : MapEntry) = e0 := by rw [← h3]
        rw [this]
        exact set_self _ _ _ h2
      have hru : (Instr.mapEntry 47 (.map (some b)) (keyV x)).run Try.prog w = .ok (.tuple #[e0.val, goInt e0.born]) (setBlock w b (.map es clock)) := by
        simp [Instr.mapEntry, run_underlying Try.underlying47, MapKept.run_getObj_map h.at_, m_law.check w false hk, h1, hj, h3, m_law.stays w hk, hsame, MapKept.run_setObj_map _ h.at_, Result.andThen, setBlock]
      have e1 : setBlock w b (.map es1 clock1) = setBlock w b (.map es clock) := by
        have := hrun.symm.trans hru
        simp at this
        exact this.2
      obtain ⟨rfl, rfl⟩ := hinj es1 es clock1 clock (by rw [e1])
      exact ⟨hat, h.fit, Nat.le_succ_of_le h.size, h.ent, h.abs⟩
  · obtain ⟨es', clock', hr1, hr2⟩ := hstore w2 (.int .i64 v) hw2
    obtain ⟨E, C, hr3, hM, _⟩ := hupd v hv
    obtain ⟨rfl, rfl⟩ := hinj _ _ _ _ (hr2.symm.trans hr3)
    exact ⟨es', clock', hr1, hM _ (heap_setBlock_same hw2 _)⟩
end Go.Proofs.Ytjdkaagkaambkaa
