/- Loads, stores, iterators. -/
import Derived.Test.YtjaeanhgcijfoaaGreatDoorCxOps7
import Derived.Laws.CopyRow
import Derived.Laws.Rows
set_option linter.unusedSimpArgs false
set_option linter.unusedVariables false
namespace Go.Cx
open Go.RowKit

section
variable {β : Type} {P : Program} {cr : FuncId → Option CR} {ops : List Oper} {C : Caller} {ro : Nat} {w0 w : World} {g0 g : G} {o : Oper} {a : Act} {st : St} {ao : AOp} {K : St → AV → Option β} {x : β}

theorem cell_of_heap {b off : Nat} {cs : Array Value} {e : TypeId} {fz : Nat × Nat} (h : w.heap[b]? = some (.cells cs e fz)) : w.cell? ⟨b, off, none⟩ = cs[off]? := by
  simp [World.cell?, h]

theorem asC_inv {t : CT} {p : PV} {L : PV → Option β} (h : asC t p L = some x) : L p = some x ∧ p ≠ .bad := by
  unfold asC at h
  cases t with
  | int k =>
    simp only [pInt_eq] at h
    split at h
    · obtain ⟨hk, h2⟩ := cond_some_none h
      have := same_eq hk
      subst this
      exact ⟨h2, by simp⟩
    · cases h
  | bool => simp only [pBool_eq] at h; split at h; exact ⟨h, by simp⟩; cases h
  | str => simp only [pStr_eq] at h; split at h; exact ⟨h, by simp⟩; cases h
  | sl z =>
    simp only [pSl_eq] at h
    split at h
    · obtain ⟨hk, h2⟩ := cond_some_none h
      have := Nat.eq_of_beq_eq_true hk
      subst this
      exact ⟨h2, by simp⟩
    · cases h
  | raw =>
    simp only [pRaw_eq] at h
    split at h
    · cases h
    · rename_i q hq; exact ⟨h, hq⟩

theorem getD_of_ne {cs : List PV} {j : Nat} (h : cs.getD j .bad ≠ .bad) : cs[j]? = some (cs.getD j .bad) := by
  rw [List.getD_eq_getElem?_getD] at h ⊢
  cases hj : cs[j]? with
  | none => rw [hj] at h; exact absurd rfl h
  | some p => rfl

theorem asCs_inv : ∀ {ts : List CT} {j : Nat} {cs : List PV} {L : List PV → Option β}, asCs ts j cs L = some x →
    ∃ ps, L ps = some x ∧ ps.length = ts.length ∧ ∀ i, i < ts.length → ∃ p, ps[i]? = some p ∧ cs[j + i]? = some p
  | [], j, cs, L, h => ⟨[], h, rfl, fun i hi => by simp at hi⟩
  | t :: ts, j, cs, L, h => by
    simp only [asCs] at h
    obtain ⟨h1, h2⟩ := asC_inv h
    obtain ⟨ps, h3, h4, h5⟩ := asCs_inv h1
    refine ⟨_, h3, by simp [h4], fun i hi => ?_⟩
    cases i with
    | zero => exact ⟨_, rfl, getD_of_ne h2⟩
    | succ i =>
      obtain ⟨p, hp, hq⟩ := h5 i (by simp at hi; omega)
      exact ⟨p, by simpa using hp, by rw [show j + (i + 1) = j + 1 + i from by omega]; exact hq⟩

theorem loadVar_agg {t : TypeId} {b off n : Nat} {f : Nat → Value} (hu : P.underlying t ≠ none) (ha : isAggB P t = true) (hn : P.cellsOf t = n) (hf : ∀ j, j < n → w.cell? ⟨b, off + j, none⟩ = some (f j)) :
    (loadVar t ⟨b, off, none⟩).run P w = .ok (.agg ((List.range n).map f).toArray) w := by
  obtain ⟨i, hi⟩ := info_of_underlying hu
  have hl := run_loadCells (P := P) w ⟨b, off, none⟩ n f (fun j hj => by rw [Addr.add_lit]; exact hf j hj)
  simp only [loadVar, Sem.run_bind, isAgg_run t hu, Result.andThen_ok, ha, if_true, sizeOf_run hi, hn, hl, Sem.run_pure]

theorem loadVar_one {t : TypeId} {ad : Addr} {v : Value} (hu : P.underlying t ≠ none) (ha : isAggB P t = false) (hv : w.cell? ad = some v) : (loadVar t ad).run P w = .ok v w := by
  simp only [loadVar, Sem.run_bind, isAgg_run t hu, Result.andThen_ok, ha, Bool.false_eq_true, if_false, run_load, hv]

theorem range_get {n : Nat} {f : Nat → Value} {j : Nat} {v : Value} (h : ((List.range n).map f).toArray[j]? = some v) : j < n ∧ v = f j := by
  simp only [List.getElem?_toArray, List.getElem?_map] at h
  obtain ⟨k, hk, rfl⟩ := Option.map_eq_some_iff.1 h
  have := List.getElem?_eq_some_iff.1 hk
  obtain ⟨h1, h2⟩ := this
  simp at h1 h2
  subst h2
  exact ⟨h1, rfl⟩

/-- An object's cell gives up what it owns, to another place. -/
theorem RS.transferO (h : RS ro w0 g0 a w st g) (i off : Nat) (c : List AV) (hi : st.objs[i]? = some (.cells c)) (q : Nat × Nat) (hq : q.1 = 0) :
    ∃ g', g'.com = g.com ∧ g'.obj = g.obj ∧ RS ro w0 g0 a w { st with objs := st.objs.set i (.cells (c.set off (c.getD off .any).view)) } g' ∧ (∀ v x, OwnAt w g (i + 1, off) v x → OwnAt w g' q v x) := by
  refine ⟨{ g with own := fun b => if g.own b = some (i + 1, off) then some q else g.own b }, rfl, rfl, ?_, ?_⟩
  · have hkeep : ∀ p v x, p ≠ (i + 1, off) → OwnAt w g p v x → OwnAt w { g with own := fun b => if g.own b = some (i + 1, off) then some q else g.own b } p v x := by
      intro p v x hp ho sz xs hx
      obtain ⟨a, n, c, rfl, hc | ⟨b, cs, e, ha, hb, hr⟩⟩ := ho sz xs hx
      · exact ⟨a, n, c, rfl, .inl hc⟩
      · refine ⟨a, n, c, rfl, .inr ⟨b, cs, e, ha, ?_, hr⟩⟩
        show (if g.own b = some (i + 1, off) then some q else g.own b) = some p
        rw [if_neg (by rw [hb]; simpa using hp)]
        exact hb
    have hlen : i < st.objs.length := (List.getElem?_eq_some_iff.1 hi).1
    refine ⟨h.defers, ⟨h.env.1, fun t v x hv hx => ⟨(h.env.2 t v x hv hx).1.ownd, hkeep _ _ _ (by simp) (h.env.2 t v x hv hx).2⟩⟩, ?_, ?_⟩
    · refine ⟨fun o ho => h.wf.dom o (by simpa using ho), fun o ob hob => ?_, h.wf.inj, h.wf.fresh, h.wf.comobj, fun b p hp => ?_, fun o b p ho hp => ?_⟩
      · by_cases hoi : o = i
        · subst hoi
          rw [List.getElem?_set_self hlen] at hob
          cases hob
          obtain ⟨b, hb, cs, e, h1, h2, h3⟩ := h.wf.rep o _ hi
          refine ⟨b, hb, cs, e, h1, by simpa using h2, fun j v x hv hx => ?_⟩
          rw [List.getElem?_set] at hx
          split at hx
          · rename_i hj
            subst hj
            split at hx
            · rename_i hlt
              cases hx
              have hlt : off < c.length := by simpa using hlt
              have := h3 off v c[off] hv (by simp [hlt])
              have e1 : c.getD off .any = c[off] := by simp [List.getD, hlt]
              rw [e1]
              exact ⟨this.1.view.ownd, OwnAt.of_view _ _ _ _ _⟩
            · cases hx
          · rename_i hj
            exact ⟨(h3 j v x hv hx).1.ownd, hkeep _ _ _ (by simp; omega) (h3 j v x hv hx).2⟩
        · rw [List.getElem?_set_ne (by omega)] at hob
          obtain ⟨b, hb, hr⟩ := h.wf.rep o ob hob
          refine ⟨b, hb, ?_⟩
          cases ob with
          | iter s pos => exact hr
          | cells c' =>
            obtain ⟨cs, e, h1, h2, h3⟩ := hr
            exact ⟨cs, e, h1, h2, fun j v x hv hx => ⟨(h3 j v x hv hx).1.ownd, hkeep _ _ _ (by simp; omega) (h3 j v x hv hx).2⟩⟩
      · by_cases hb : g.own b = some (i + 1, off)
        · exact h.wf.ownlt b _ hb
        · simp only [if_neg hb] at hp; exact h.wf.ownlt b p hp
      · by_cases hb : g.own b = some (i + 1, off)
        · exact h.wf.ownobj o b _ ho hb
        · simp only [if_neg hb] at hp; exact h.wf.ownobj o b p ho hp
    · exact ⟨h.fr.os, h.fr.tape, h.fr.output, h.fr.size, h.fr.blk, h.fr.keeps, h.fr.com, h.fr.obj, h.fr.objn,
        fun b p hp => by
          by_cases hb : g.own b = some (i + 1, off)
          · exact h.fr.own b _ hb
          · simp only [if_neg hb] at hp; exact h.fr.own b p hp⟩
  · intro v x ho sz xs hx
    obtain ⟨a, n, c, rfl, hc | ⟨b, cs, e, ha, hb, hr⟩⟩ := ho sz xs hx
    · exact ⟨a, n, c, rfl, .inl hc⟩
    · refine ⟨a, n, c, rfl, .inr ⟨b, cs, e, ha, ?_, hr⟩⟩
      show (if g.own b = some (i + 1, off) then some q else g.own b) = some q
      rw [if_pos hb]

theorem snd_load {t : TypeId} {y : Operand} {ay : AO} {ts : Option (List CT)} {ct : CT} {tk : Bool} (hop : o.op = .load t y) (hu : P.underlying t ≠ none)
    (hts : (∃ l, ts = some l ∧ isAggB P t = true ∧ l.length = P.cellsOf t) ∨ (ts = none ∧ isAggB P t = false)) (hy : trO' P y = some ay)
    (he : evOp C ro (.load ts ct tk ay) st K = some x) (hs : RS ro w0 g0 a w st g) : Sound1 P ro w0 g0 o a w K x := by
  have ry := trO_rep hy hs.env
  have hrun : ∀ ad, a.eval y = .pointer (some ad) → (execOp a.eval o).run P w = ((loadVar t ad).run P w).andThen fun v w => .ok (.value v) w := by
    intro ad hv
    simp only [execOp, hop, hv, Instr.loadAt, Instr.sureAddr, Sem.run_bind, Sem.run_pure, Result.andThen_ok]
  simp only [evOp] at he
  split at he
  · rename_i i off hp
    rw [hp] at ry
    obtain ⟨b, hb, hv⟩ := ry.ptr_inv
    split at he
    · rename_i c hc
      obtain ⟨b', hb', cs, e, h1, h2, h3⟩ := hs.wf.rep i _ hc
      rw [hb] at hb'; cases hb'
      have hcell : ∀ j, w.cell? ⟨b, j, none⟩ = cs[j]? := fun j => cell_of_heap h1
      rcases hts with ⟨l, rfl, hagg, hl⟩ | ⟨rfl, hagg⟩
      · simp only at he
        obtain ⟨hle, he⟩ := cond_some_none he
        have hle := Nat.le_of_ble_eq_true hle
        have hlv := loadVar_agg (P := P) (w := w) (t := t) (b := b) (off := off) (n := l.length) (f := fun j => cs.getD (off + j) undef) hu hagg hl.symm (fun j hj => by
          rw [hcell]
          have : off + j < cs.size := by omega
          simp [Array.getD, this])
        refine Val.sound (Val.of he (by rw [hrun _ hv, hlv]; rfl) hs (mkAgg_rep (by simp; omega) fun j v z hv hz => ?_) (mkAgg_ne _))
        obtain ⟨hj, rfl⟩ := range_get hv
        rw [List.getElem?_take, if_pos hj, List.getElem?_drop] at hz
        exact (h3 (off + j) _ z (by have : off + j < cs.size := by omega
                                    simp [Array.getD, this]) hz).1
      · simp only at he
        obtain ⟨hlt, he⟩ := cond_some_none he
        have hlt : off < c.length := by have := Nat.le_of_ble_eq_true hlt; omega
        have hlc : off < cs.size := by omega
        have hlv := loadVar_one (P := P) (w := w) (t := t) (ad := ⟨b, off, none⟩) (v := cs[off]) hu hagg (by rw [hcell]; simp [hlc])
        have hrep := h3 off cs[off] c[off] (by simp [hlc]) (by simp [hlt])
        have e1 : c.getD off .any = c[off] := by simp [List.getD, hlt]
        rw [← e1] at hrep
        rcases cond_some he with ⟨htk, he⟩ | ⟨htk, he⟩
        · cases hd : o.dst with
          | none =>
            obtain ⟨g', hc', ho', hrs, hw⟩ := hs.transferO i off c hc (0, 0) rfl
            exact sound_ok (by rw [hrun _ hv, hlv]; rfl) he hrs (hrep.1.congr hc' ho') (fun k hk => by rw [hd] at hk; cases hk)
          | some k =>
            obtain ⟨g', hc', ho', hrs, hw⟩ := hs.transferO i off c hc (0, k) rfl
            exact sound_ok (by rw [hrun _ hv, hlv]; rfl) he hrs (hrep.1.congr hc' ho') (fun k' hk => by rw [hd] at hk; cases hk; exact hw _ _ hrep.2)
        · exact Val.sound (Val.of he (by rw [hrun _ hv, hlv]; rfl) hs hrep.1.view (view_ne _))
    · cases he
  · rename_i c hp
    rw [hp] at ry
    obtain ⟨b, off, hv, hcom, val, hcell, hrep⟩ := ry.rp_inv
    rcases hts with ⟨l, rfl, hagg, hl⟩ | ⟨rfl, hagg⟩
    · simp only at he
      obtain ⟨ps, he, hps, hall⟩ := asCs_inv he
      have hlen : l.length ≤ c.length := by
        rcases Nat.lt_or_ge c.length l.length with h | h
        · obtain ⟨p, _, hq⟩ := hall (l.length - 1) (by omega)
          have := (List.getElem?_eq_some_iff.1 hq).1
          omega
        · exact h
      have hlv := loadVar_agg (P := P) (w := w) (t := t) (b := b) (off := off) (n := l.length) (f := val) hu hagg hl.symm (fun j hj => hcell j (by omega))
      refine Val.sound (Val.of he (by rw [hrun _ hv, hlv]; rfl) hs (.pv _ _ (.agg _ _ (by simp [hps]) fun j v p hv hp => ?_)) (by simp))
      obtain ⟨hj, rfl⟩ := range_get hv
      obtain ⟨p', hp', hq⟩ := hall j hj
      rw [hp] at hp'; cases hp'
      exact hrep j p (by simpa using hq)
    · simp only at he
      obtain ⟨he, hne⟩ := asC_inv he
      have h0 := getD_of_ne hne
      have hlt : 0 < c.length := (List.getElem?_eq_some_iff.1 h0).1
      have hlv := loadVar_one (P := P) (w := w) (t := t) (ad := ⟨b, off, none⟩) (v := val 0) hu hagg (by have := hcell 0 hlt; simpa using this)
      exact Val.sound (Val.of he (by rw [hrun _ hv, hlv]; rfl) hs (.pv _ _ (hrep 0 _ h0)) (by simp))
  · cases he
end
end Go.Cx
