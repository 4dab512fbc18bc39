/- Operations that leave the world as it is. -/
import Derived.Test.YtjaeanhgcijfoaaGreatDoorCxRep
set_option linter.unusedSimpArgs false
set_option linter.unusedVariables false
namespace Go.Cx
open Go.RowKit

theorem pvCell_rep {w : World} {com : Nat → Nat} {t : CT} {v : Value} {p : PV} (h : pvCell t v = some p) : RepP w com v p := by
  unfold pvCell at h
  split at h <;> simp at h <;> subst h
  · exact .sl0 _ _ _
  · exact .bool _
  · exact .int _ _
  · exact .str _
  · exact .nilp
  · exact .nilIface
  · exact .nilFn

theorem pvCells_rep {w : World} {com : Nat → Nat} : ∀ {ts : List CT} {vs : List Value} {ps : List PV}, pvCells ts vs = some ps →
    vs.length = ps.length ∧ ts.length = ps.length ∧ ∀ (j : Nat) (v : Value) (p : PV), vs[j]? = some v → ps[j]? = some p → RepP w com v p
  | [], [], ps, h => by simp [pvCells] at h; subst h; simp
  | t :: ts, v :: vs, ps, h => by
    simp only [pvCells] at h
    split at h
    · rename_i p r hp hr
      simp at h; subst h
      obtain ⟨h1, h2, h3⟩ := pvCells_rep (w := w) (com := com) hr
      refine ⟨by simp [h1], by simp [h2], fun j v' p' hv hp' => ?_⟩
      cases j with
      | zero => simp at hv hp'; subst hv; subst hp'; exact pvCell_rep hp
      | succ j => simp at hv hp'; exact h3 j v' p' hv hp'
    · simp at h
  | [], _ :: _, ps, h => by simp [pvCells] at h
  | _ :: _, [], ps, h => by simp [pvCells] at h

theorem constAV_rep {P : Program} {t : TypeId} {v : Value} {x : AV} (h : constAV P t v = some x) (w : World) (g : G) :
    RepA w g v x ∧ ∀ p, OwnAt w g p v x := by
  unfold constAV at h
  split at h
  · split at h <;> simp at h
    subst h
    exact ⟨.own _ _ _ (.sl0 _ _ _), fun p sz xs he => by cases he; exact ⟨none, 0, 0, rfl, .inl rfl⟩⟩
  · split at h
    · obtain ⟨ps, hps, rfl⟩ := Option.map_eq_some_iff.1 h
      rename_i cs _ _ _
      obtain ⟨h1, _, h3⟩ := pvCells_rep (w := w) (com := g.com) hps
      refine ⟨.pv _ _ (.agg _ _ (by simpa using h1) (fun j v p hv hp => h3 j v p (by simpa using hv) hp)), fun p sz xs he => by cases he⟩
    · simp at h
  · split at h
    · rename_i cs hcs
      simp at h; subst h
      have : cs = #[] := by simpa using hcs
      subst this
      exact ⟨.pv _ _ (.tup _ _ rfl (fun j v p hv => by simp at hv)), fun p sz xs he => by cases he⟩
    · simp at h
  · obtain ⟨p, hp, rfl⟩ := Option.map_eq_some_iff.1 h
    exact ⟨.pv _ _ (pvCell_rep hp), fun p sz xs he => by cases he⟩

theorem RepE.get {w : World} {g : G} {tmps : Array Value} {env : List AV} (h : RepE w g tmps env) (i : Nat) :
    RepA w g (tmps.getD i undef) (env.getD i .any) ∧ OwnAt w g (0, i) (tmps.getD i undef) (env.getD i .any) := by
  by_cases hi : i < env.length
  · have ht : i < tmps.size := by rw [h.1]; exact hi
    have := h.2 i tmps[i] env[i] (by simp [ht]) (by simp [hi])
    simpa [Array.getD, ht, List.getD, hi] using this
  · have : env.getD i .any = .any := by simp [List.getD, hi]
    rw [this]
    exact ⟨.any _, fun _ _ h => by cases h⟩

theorem trO_rep {P : Program} {t : TypeId} {x : Operand} {ax : AO} (h : trO P t x = some ax) {w : World} {g : G} {a : Act} {st : St} (he : RepE w g a.tmps st.env) :
    RepA w g (a.eval x) (st.get ax) := by
  cases x with
  | tmp i => simp [trO] at h; subst h; exact (he.get i).1
  | const v => obtain ⟨x, hx, rfl⟩ := Option.map_eq_some_iff.1 h; exact (constAV_rep hx w g).1
  | global g => simp [trO] at h
  | func f => simp [trO] at h; subst h; exact .fn f #[] #[] [] [] rfl rfl (fun j v x hv => by simp at hv) (fun j v x hv => by simp at hv)

theorem RepE.view {w : World} {g : G} {tmps : Array Value} {env : List AV} (h : RepE w g tmps env) (i : Nat) : RepE w g tmps (env.set i (env.getD i .any).view) := by
  refine ⟨by simp [h.1], fun t v x hv hx => ?_⟩
  rw [List.getElem?_set] at hx
  split at hx
  · rename_i hit
    subst hit
    split at hx
    · rename_i hlt
      simp at hx; subst hx
      have := h.get i
      have hv' : tmps.getD i undef = v := by simp [Array.getD_eq_getD_getElem?, hv]
      rw [hv'] at this
      exact ⟨by simpa [List.getD] using this.1.view, OwnAt.of_view _ _ _ _ _⟩
    · simp at hx
  · exact h.2 t v x hv hx

theorem RepE.put {w : World} {g : G} {tmps : Array Value} {env : List AV} (h : RepE w g tmps env) (d : Nat) {v : Value} {x : AV} (hx : RepA w g v x) (ho : OwnAt w g (0, d) v x) :
    RepE w g (tmps.setIfInBounds d v) (env.set d x) := by
  refine ⟨by simp [h.1], fun t v' x' hv hx' => ?_⟩
  rw [List.getElem?_set] at hx'
  rw [Array.getElem?_setIfInBounds] at hv
  by_cases hd : d = t
  · subst hd
    simp only [if_true] at hx' hv
    split at hx'
    · split at hv
      · simp at hx' hv; subst hx'; subst hv; exact ⟨hx, ho⟩
      · simp at hv
    · simp at hx'
  · rw [if_neg hd] at hx' hv
    exact h.2 t v' x' hv hx'

theorem RS.put {ro : Nat} {w0 : World} {g0 : G} {a : Act} {w : World} {st : St} {g : G} (h : RS ro w0 g0 a w st g) (d : Option Nat) {v : Value} {x : AV}
    (hx : RepA w g v x) (ho : ∀ k, d = some k → OwnAt w g (0, k) v x) : RS ro w0 g0 (a.put d v) w (st.put d x) g := by
  cases d with
  | none => exact h
  | some d => exact ⟨h.defers, h.env.put d hx (ho d rfl), h.wf, h.fr⟩

theorem wp_value {P : Program} {o : Oper} {a : Act} {w w' : World} {K : Act → World → Prop} {Q : Exit → Act → World → Prop} {v : Value}
    (hr : (execOp a.eval o).run P w = .ok (.value v) w') (h : K (a.put o.dst v) w') : o.wp P a w K Q := by
  unfold Oper.wp
  rw [hr]
  exact h
theorem wp_skipop {P : Program} {o : Oper} {a : Act} {w w' : World} {K : Act → World → Prop} {Q : Exit → Act → World → Prop}
    (hr : (execOp a.eval o).run P w = .ok .skip w') (h : K (a.put o.dst undef) w') : o.wp P a w K Q := by
  unfold Oper.wp
  rw [hr]
  exact h
end Go.Cx
