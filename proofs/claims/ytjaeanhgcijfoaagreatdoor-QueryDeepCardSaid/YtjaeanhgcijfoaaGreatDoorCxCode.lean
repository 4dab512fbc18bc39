/- Code, and functions. -/
import Derived.Test.YtjaeanhgcijfoaaGreatDoorCxGrow3
set_option linter.unusedSimpArgs false
set_option linter.unusedVariables false
namespace Go.Cx
open Go.RowKit

def AExit.toE : AExit → Exit
  | .normal => .normal
  | .exit id => .exit id
  | .ret => .ret

section
variable {β : Type} {P : Program} {cr : Option FuncId → Option CR} {Gl : World → Prop} {B0 ro : Nat} {w0 w w' : World} {g0 g g' : G} {o : Oper} {a : Act} {st : St} {x : β} {C : Caller} {arr : Array Oper}

/-- Where the continuation answers, the postcondition holds. -/
def After (ro : Nat) (w0 : World) (g0 : G) (K : AExit → St → Option β) (x : β) (Q : Exit → Act → World → Prop) : Prop :=
  ∀ e st a w g, K e st = some x → RS ro w0 g0 a w st g → Q e.toE a w

theorem snd_code (cx : Ctx P Gl B0 C w0 g0) (n : Nat) : ∀ (c : Code) (ann : Ann) (K : AExit → St → Option β) (Q : Exit → Act → World → Prop) (a : Act) (w : World) (st : St) (g : G),
    evC C ro n (trC P cr c ann) K st = some x → RS ro w0 g0 a w st g → After ro w0 g0 K x Q → c.wp P Q a w
  | .skip, ann, K, Q, a, w, st, g, he, hs, hK => by
    simp only [trC, evC] at he
    exact wp_skip (hK _ _ _ _ _ he hs)
  | .region id ops false, ann, K, Q, a, w, st, g, he, hs, hK => by
    simp only [trC] at he
    split at he
    case h_2 => simp [evC] at he
    rename_i is h1
    simp only [evC] at he
    refine wp_region ?_
    rw [List.range_eq_range']
    exact snd_ins cx (K := K .normal) (fun st' a' w' g' hk hr => hK .normal _ _ _ _ hk hr) ops.size 0 is a w st g (by omega) (by simpa using h1) he hs
  | .region id ops true, ann, K, Q, a, w, st, g, he, hs, hK => by
    simp only [trC] at he
    split at he
    · rename_i is h1
      simp only [evC] at he
      exact snd_any cx h1 he hs (fun st' a' w' g' hk hr => hK .normal _ _ _ _ hk hr)
    · cases hg : trGrow P cr ops.toList with
      | none => rw [hg] at he; simp [evC] at he
      | some ac => rw [hg] at he; exact snd_grow cx hg he hs (fun st' a' w' g' hk hr => hK .normal _ _ _ _ hk hr)
  | .seq c d, ann, K, Q, a, w, st, g, he, hs, hK => by
    simp only [trC] at he
    have key : ∀ (bc : ACode) (K' : St → Option β), (∀ st a w g, K' st = some x → RS ro w0 g0 a w st g → d.wp P Q a w) → (∀ st, evC C ro n (.seq (trC P cr c ann.l) bc) K st = evC C ro n (trC P cr c ann.l) (fun e st => match e with | .normal => K' st | e => K e st) st) →
        evC C ro n (.seq (trC P cr c ann.l) bc) K st = some x → (Code.seq c d).wp P Q a w := by
      intro bc K' hK' heq he
      rw [heq] at he
      refine wp_seq (snd_code cx n c ann.l _ _ a w st g he hs (fun e st a w g hk hr => ?_))
      cases e with
      | normal => exact hK' _ _ _ _ hk hr
      | exit id => exact hK (.exit id) _ _ _ _ hk hr
      | ret => exact hK .ret _ _ _ _ hk hr
    split at he
    · exact key (trC P cr d ann.r) (evC C ro n (trC P cr d ann.r) K) (fun st a w g hk hr => snd_code cx n d ann.r K Q a w st g hk hr hK) (fun st => rfl) he
    · rename_i keep _
      refine key (.mask keep (trC P cr d ann.r)) (evC C ro n (.mask keep (trC P cr d ann.r)) K) (fun st a w g hk hr => ?_) (fun st => rfl) he
      simp only [evC] at hk
      obtain ⟨st', g', hk', _, hr'⟩ := snd_mask hk hr hr.objs_lt
      exact snd_code cx n d ann.r K Q a w st' g' hk' hr' hK
  | .cond c d e, ann, K, Q, a, w, st, g, he, hs, hK => by
    simp only [trC] at he
    split at he
    case h_2 => simp [evC] at he
    rename_i cc h0
    simp only [evC] at he
    split at he
    case h_2 => cases he
    rename_i t ht
    have hr := trO_rep h0 hs.env
    rw [ht] at hr
    cases t with
    | true => exact wp_cond hr.bool_inv (snd_code cx n d ann.l K Q a w st g he hs hK)
    | false => exact wp_cond hr.bool_inv (snd_code cx n e ann.r K Q a w st g he hs hK)
  | .block id c, ann, K, Q, a, w, st, g, he, hs, hK => by
    simp only [trC, evC] at he
    refine wp_block (snd_code cx n c ann.l _ _ a w st g he hs (fun e st a w g hk hr => ?_))
    cases e with
    | normal => exact hK .normal _ _ _ _ hk hr
    | ret => exact hK .ret _ _ _ _ hk hr
    | exit id' =>
      simp only [AExit.toE, Exit.inBlock]
      cases hb : Nat.beq id' id with
      | true =>
        simp only [hb, cond] at hk
        rw [if_pos (Nat.eq_of_beq_eq_true hb)]
        exact hK .normal _ _ _ _ hk hr
      | false =>
        simp only [hb, cond] at hk
        rw [if_neg (Nat.ne_of_beq_eq_false hb)]
        exact hK (.exit id') _ _ _ _ hk hr
  | .loop c, ann, K, Q, a, w, st, g, he, hs, hK => by
    simp only [trC, evC] at he
    have hm := hs.objs_lt
    have hmask : ∀ {K' : St → Option β} {st2 : St} {a : Act} {w : World} {g : G}, maskOp ann.keep st.objs.length st2 K' = some x → RS ro w0 g0 a w st2 g → ∃ st' g', K' st' = some x ∧ RS ro w0 g0 a w st' g' := by
      intro K' st2 a w g he hr
      unfold maskOp at he
      split at he
      · obtain ⟨st1, g1, he, _, hs1⟩ := snd_mask he hr hm
        exact ⟨st1, g1, he, hs1⟩
      · exact ⟨st2, g, he, hr⟩
    obtain ⟨st1, g1, he, hs1⟩ := hmask he hs
    refine wp_loop_rounds n ?_
    have key : ∀ (k : Nat) (a : Act) (w : World) (st2 : St) (g : G), loopN (evC C ro n (trC P cr c ann.l)) (maskOp ann.keep st.objs.length) K k st2 = some x → RS ro w0 g0 a w st2 g → Code.rounds P c Q k a w := by
      intro k
      induction k with
      | zero => intro a w st2 g hl _; simp [loopN] at hl
      | succ k ih =>
        intro a w st2 g hl hr
        simp only [loopN] at hl
        refine snd_code cx n c ann.l _ _ a w st2 g hl hr (fun e st3 a w g hk hr => ?_)
        cases e with
        | normal =>
          obtain ⟨st4, g4, hk', hr'⟩ := hmask hk hr
          exact ih a w st4 g4 hk' hr'
        | exit id => exact hK (.exit id) _ _ _ _ hk hr
        | ret => exact hK .ret _ _ _ _ hk hr
    exact key n a w st1 g1 he hs1
  | .exit id, ann, K, Q, a, w, st, g, he, hs, hK => by
    simp only [trC, evC] at he
    exact wp_exit (hK (.exit id) _ _ _ _ he hs)
  | .ret, ann, K, Q, a, w, st, g, he, hs, hK => by
    simp only [trC, evC] at he
    exact wp_ret (hK .ret _ _ _ _ he hs)
  | .rangeFunc .., ann, K, Q, a, w, st, g, he, hs, hK => by simp [trC, evC] at he
  | .scope _, ann, K, Q, a, w, st, g, he, hs, hK => by simp [trC, evC] at he
  | .label _, ann, K, Q, a, w, st, g, he, hs, hK => by simp [trC, evC] at he
  | .goto _, ann, K, Q, a, w, st, g, he, hs, hK => by simp [trC, evC] at he
  | .refuse _, ann, K, Q, a, w, st, g, he, hs, hK => by simp [trC, evC] at he

/-! ### Results -/

/-- What a result reads. -/
def resVal (tmps : Array Value) (r : ResultVar) : Sem Value :=
  match r with
  | .tmp t => pure (tmps.getD t undef)
  | .cell p t => do loadVar t (← asAddr (tmps.getD p undef))

theorem results_eq (fn : Func) (tmps : Array Value) : results fn tmps = (do
    let vs ← fn.results.mapM (resVal tmps)
    pure (if h : vs.size = 1 then vs[0] else .tuple vs)) := by
  unfold results
  congr 1

theorem snd_res1 {r : ResultVar} {rs : List ResultVar} {ars : List ARes} {ar : ARes} {K : AV → Option β} (htr : trRes P (r :: rs) = some (ar :: ars)) (he : evRes1 st ar K = some x) (hs : RS ro w0 g0 a w st g) :
    trRes P rs = some ars ∧ ∃ v y, K y = some x ∧ RepA w g v y ∧ (∀ sz xs, y ≠ .own sz xs) ∧
      (resVal a.tmps r).run P w = .ok v w := by
  cases r with
  | tmp t =>
    simp only [trRes] at htr
    obtain ⟨l, hl, h⟩ := Option.map_eq_some_iff.1 htr
    cases h
    exact ⟨hl, _, _, he, (hs.env.get t).1.view, view_ne _, rfl⟩
  | cell p t =>
    simp only [trRes] at htr
    split at htr
    · cases htr
    rename_i hu
    have hu : P.underlying t ≠ none := by intro h; rw [h] at hu; exact hu rfl
    have hp := (hs.env.get p).1
    have hsplit : (∃ n, ar = .cell (some n) p ∧ trRes P rs = some ars ∧ isAggB P t = true ∧ n = P.cellsOf t) ∨ (ar = .cell none p ∧ trRes P rs = some ars ∧ isAggB P t = false) := by
      split at htr
      · rename_i ha
        split at htr
        · rename_i l hl
          obtain ⟨r', hr', h⟩ := Option.map_eq_some_iff.1 htr
          cases h
          exact .inl ⟨_, rfl, hr', ha, lay_length hl⟩
        · cases htr
      · rename_i ha
        obtain ⟨r', hr', h⟩ := Option.map_eq_some_iff.1 htr
        cases h
        exact .inr ⟨rfl, hr', by simpa using ha⟩
    have hobj : ∀ n, ar = .cell n p → ∃ o off b c cs e, st.env.getD p .any = .ptr o off ∧ a.tmps.getD p undef = .pointer (some ⟨b, off, none⟩) ∧ st.objs[o]? = some (.cells c) ∧ w.heap[b]? = some (.cells cs e (0, 0)) ∧ cs.size = c.length ∧
        (∀ j v x, cs[j]? = some v → c[j]? = some x → RepA w g v x ∧ OwnAt w g (o + 1, j) v x) := by
      intro n hn
      subst hn
      simp only [evRes1] at he
      split at he
      case h_2 => cases he
      rename_i o off hp'
      split at he
      case h_2 => cases he
      rename_i c hc
      rw [hp'] at hp
      obtain ⟨b, hb, hv⟩ := hp.ptr_inv
      obtain ⟨b', hb', cs, e, h1, h2, h3⟩ := hs.wf.rep o _ hc
      rw [hb] at hb'; cases hb'
      exact ⟨o, off, b, c, cs, e, hp', hv, hc, h1, h2, h3⟩
    rcases hsplit with ⟨n, rfl, hrs, ha, hn⟩ | ⟨rfl, hrs, ha⟩
    · obtain ⟨o, off, b, c, cs, e, e1, e2, e3, h1, h2, h3⟩ := hobj _ rfl
      simp only [evRes1, e1, e3] at he
      obtain ⟨hle, he⟩ := cond_some_none he
      have hle := Nat.le_of_ble_eq_true hle
      have hlv := loadVar_agg (P := P) (w := w) (t := t) (b := b) (off := off) (n := n) (f := fun j => cs.getD (off + j) undef) hu ha hn.symm (fun j hj => by
        rw [cell_of_heap h1]
        have : off + j < cs.size := by omega
        simp [Array.getD, this])
      refine ⟨hrs, _, _, he, mkAgg_rep (cs := ((List.range n).map fun j => cs.getD (off + j) undef).toArray) (by simp; omega) (fun j v z hv hz => ?_), mkAgg_ne _, by simp only [resVal, e2, Sem.run_bind, asAddr, Sem.run_pure, Result.andThen_ok]; exact hlv⟩
      obtain ⟨hj, rfl⟩ := range_get hv
      rw [List.getElem?_take, if_pos hj, List.getElem?_drop] at hz
      have : off + j < cs.size := by omega
      exact (h3 (off + j) _ z (by simp [Array.getD, this]) hz).1
    · obtain ⟨o, off, b, c, cs, e, e1, e2, e3, h1, h2, h3⟩ := hobj _ rfl
      simp only [evRes1, e1, e3] at he
      obtain ⟨hlt, he⟩ := cond_some_none he
      have hlt : off < c.length := by simp only [Nat.blt] at hlt; exact Nat.le_of_ble_eq_true hlt
      have hoff : off < cs.size := by omega
      have hlv := loadVar_one (P := P) (w := w) (t := t) (ad := ⟨b, off, none⟩) (v := cs[off]) hu ha (by rw [cell_of_heap h1]; simp [hoff])
      have := h3 off cs[off] c[off] (by simp [hoff]) (by simp [hlt])
      refine ⟨hrs, _, _, he, ?_, view_ne _, by simp only [resVal, e2, Sem.run_bind, asAddr, Sem.run_pure, Result.andThen_ok]; exact hlv⟩
      have e4 : c.getD off .any = c[off] := by simp [List.getD, hlt]
      rw [e4]
      exact this.1.view

theorem snd_resL : ∀ {rs : List ResultVar} {ars : List ARes} {K : List AV → Option β}, trRes P rs = some ars → evResL st ars K = some x → RS ro w0 g0 a w st g →
    ∃ (vs : List Value) (ys : List AV), K ys = some x ∧ vs.length = ys.length ∧ (∀ (j : Nat) (v : Value) (y : AV), vs[j]? = some v → ys[j]? = some y → RepA w g v y ∧ ∀ sz xs, y ≠ .own sz xs) ∧
      (rs.mapM (resVal a.tmps)).run P w = .ok vs w
  | [], ars, K, htr, he, hs => by
    simp only [trRes] at htr; cases htr
    simp only [evResL] at he
    exact ⟨[], [], he, rfl, fun j v y h => by simp at h, rfl⟩
  | r :: rs, ars, K, htr, he, hs => by
    cases ars with
    | nil =>
      exfalso
      cases r with
      | tmp t => simp only [trRes] at htr; obtain ⟨l, _, h⟩ := Option.map_eq_some_iff.1 htr; cases h
      | cell p t =>
        simp only [trRes] at htr
        split at htr
        · cases htr
        · split at htr
          · split at htr
            · obtain ⟨l, _, h⟩ := Option.map_eq_some_iff.1 htr; cases h
            · cases htr
          · obtain ⟨l, _, h⟩ := Option.map_eq_some_iff.1 htr; cases h
    | cons ar ars =>
      simp only [evResL] at he
      obtain ⟨hrs, v, y, hk, hrep, hno, hrun⟩ := snd_res1 htr he hs
      obtain ⟨vs, ys, hk, hl, hall, hrun2⟩ := snd_resL hrs hk hs
      refine ⟨v :: vs, y :: ys, hk, by simp [hl], fun j v' y' hv hy => ?_, ?_⟩
      · cases j with
        | zero => simp at hv hy; subst hv; subst hy; exact ⟨hrep, hno⟩
        | succ j => simp at hv hy; exact hall j v' y' hv hy
      · simp only [List.mapM_cons, Sem.run_bind, hrun, Result.andThen_ok, hrun2, Sem.run_pure]

theorem toPVs_get : ∀ {l : List AV} {ps : List PV}, toPVs l = some ps → l.length = ps.length ∧ ∀ (j : Nat) (x : AV) (p : PV), l[j]? = some x → ps[j]? = some p → toPV x = some p
  | [], ps, h => by simp [toPVs] at h; subst h; simp
  | v :: r, ps, h => by
    simp only [toPVs] at h
    split at h
    · rename_i p q hp hq
      cases h
      obtain ⟨h1, h2⟩ := toPVs_get hq
      refine ⟨by simp [h1], fun j x p' hx hp' => ?_⟩
      cases j with
      | zero => simp at hx hp'; subst hx; subst hp'; exact hp
      | succ j => simp at hx hp'; exact h2 j x p' hx hp'
    · cases h

theorem mkTup_rep {vs : List Value} {ys : List AV} (hl : vs.length = ys.length) (hall : ∀ (j : Nat) (v : Value) (y : AV), vs[j]? = some v → ys[j]? = some y → RepA w g v y ∧ ∀ sz xs, y ≠ .own sz xs) :
    RepA w g (if h : vs.toArray.size = 1 then vs.toArray[0] else .tuple vs.toArray) (mkTup ys) ∧ ∀ sz xs, mkTup ys ≠ .own sz xs := by
  by_cases h1 : ys.length = 1
  · obtain ⟨y, rfl⟩ := List.length_eq_one_iff.1 h1
    obtain ⟨v, rfl⟩ := List.length_eq_one_iff.1 (hl.trans h1)
    exact hall 0 v y (by simp) (by simp)
  · have hm : mkTup ys = match toPVs ys with
        | some ps => .pv (.tup ps)
        | none => .tup ys := by
      unfold mkTup
      split
      · exact absurd rfl h1
      · rfl
    have hn : ¬ vs.toArray.size = 1 := by
      intro h
      exact h1 (by rw [← hl]; simpa using h)
    rw [dif_neg hn, hm]
    split
    · rename_i ps hps
      obtain ⟨h1, h2⟩ := toPVs_get hps
      refine ⟨.pv _ _ (.tup _ _ (by simp; omega) (fun j v p hv hp => ?_)), by simp⟩
      have hj : j < ys.length := by have := (List.getElem?_eq_some_iff.1 hp).1; omega
      have hr := (hall j v ys[j] (by simpa using hv) (by simp [hj])).1
      have ht := h2 j ys[j] p (by simp [hj]) hp
      generalize ys[j] = y at hr ht
      cases y <;> simp only [toPV] at ht <;> try cases ht
      · exact hr.pv_inv
      · exact hr.own_inv
      · exact hr.view.pv_inv
    · exact ⟨.tup _ _ (by simp; omega) (fun j v y hv hy => (hall j v y (by simpa using hv) hy).1), by simp⟩

end
end Go.Cx
