/- Functions: the evaluation of calls is sound. -/
import Derived.Test.YtjaeanhgcijfoaaGreatDoorCxCode
set_option linter.unusedSimpArgs false
set_option linter.unusedVariables false
namespace Go.Cx
open Go.RowKit

/-- The contracts of one function. -/
def FnR (P : Program) (Gl : World → Prop) (B0 : Nat) (f : FuncId) (args : List AV) (objs : List AObj) (p : PV) : Prop :=
  Enters P f ∧ ∀ w g vs, Gl w → Low B0 w g → ArgsRep w g vs args → WF w g objs → (∀ b, g.own b = none) →
    Calls P f vs.toArray w fun e w' => ∃ v com', e = .returned v ∧ RepP w' com' v p ∧ Quiet w g.com w' com'
def FnM (P : Program) (Gl : World → Prop) (B0 : Nat) (f : FuncId) (args : List AV) (objs : List AObj) (r : AV) (objs' : List AObj) : Prop :=
  Enters P f ∧ ∀ w g vs, Gl w → Low B0 w g → ArgsRep w g vs args → WF w g objs →
    Calls P f vs.toArray w fun e w' => ∃ v g', e = .returned v ∧ RepA w' g' v r ∧ WF w' g' objs' ∧ Fr 0 w g w' g' ∧ objs.length ≤ objs'.length

/-- A table is right. -/
structure TabOK (P : Program) (Gl : World → Prop) (B0 : Nat) (T : FuncId → Option Ent) : Prop where
  fn : ∀ f F, T f = some (.fn F) → ∃ cr ann, trF P cr f ann = some F
  R : ∀ f R M, T f = some (.told R M) → ∀ args objs p, R args objs = some p → FnR P Gl B0 f args objs p
  M : ∀ f R M, T f = some (.told R M) → ∀ args objs r objs', (M args objs).get = some (r, objs') → FnM P Gl B0 f args objs r objs'
  H : ∀ f H, T f = some (.hand H) → ∀ C, SoundC P Gl B0 C → ∀ args objs r objs', H C args objs = some (r, objs') → FnM P Gl B0 f args objs r objs'

section
variable {β : Type} {P : Program} {Gl : World → Prop} {B0 ro : Nat} {w0 w w' : World} {g0 g g' : G} {a : Act} {st : St} {x : β} {C : Caller} {T : FuncId → Option Ent}

theorem trF_inv {cr : Option FuncId → Option CR} {f : FuncId} {ann : Ann} {F : AFn} (h : trF P cr f ann = some F) :
    ∃ fn c, P.funcs[f]? = some fn ∧ fn.body = some c ∧ trRes P fn.results.toList = some F.res ∧ fn.name ≠ "runtime.NumGoroutine" ∧ F.body = trC P cr c ann ∧ F.ntmps = fn.ntmps := by
  unfold trF at h
  split at h
  case h_2 => cases h
  rename_i fn hfn
  split at h
  case h_2 => cases h
  rename_i c rs hc hrs
  split at h
  · cases h
  rename_i hn
  cases h
  exact ⟨fn, c, hfn, hc, hrs, hn, rfl, rfl⟩

/-- The slots at the start. -/
theorem RS.start {vs : List Value} {args : List AV} {objs : List AObj} (n : Nat) (ha : ArgsRep w g vs args) (hw : WF w g objs) :
    RS ro w g { tmps := vs.toArray ++ Array.replicate (n - vs.toArray.size) undef, defers := [] } w ⟨args ++ List.replicate (n - args.length) .any, objs⟩ g := by
  refine ⟨rfl, ⟨by simp [ha.1], fun t v y hv hy => ?_⟩, hw, Fr.refl _ _ _⟩
  simp only [Array.getElem?_append, List.size_toArray, List.getElem?_toArray] at hv
  simp only [List.getElem?_append] at hy
  by_cases h : t < args.length
  · rw [if_pos h] at hy
    rw [if_pos (by rw [ha.1]; exact h)] at hv
    obtain ⟨h1, h2⟩ := ha.2 t v y hv hy
    exact ⟨h1, notOwn h2⟩
  · rw [if_neg h] at hy
    have := List.mem_of_getElem? hy
    rw [List.mem_replicate] at this
    rw [this.2]
    exact ⟨.any _, fun _ _ h => by cases h⟩

theorem snd_fn {cr : Option FuncId → Option CR} {f : FuncId} {ann : Ann} {F : AFn} {n : Nat} {args : List AV} {objs : List AObj} {K : AV → List AObj → Option β} {vs : List Value} {R : Ending → World → Prop}
    (cx : Ctx P Gl B0 C w g) (htr : trF P cr f ann = some F) (he : evFn C ro n F args objs K = some x) (ha : ArgsRep w g vs args) (hw : WF w g objs)
    (hR : ∀ y objs' v w' g', K y objs' = some x → RepA w' g' v y → WF w' g' objs' → Fr ro w g w' g' → R (.returned v) w') : Calls P f vs.toArray w R := by
  obtain ⟨fn, c, hfn, hc, hrs, hn, hb, hnt⟩ := trF_inv htr
  unfold evFn at he
  refine calls_of_wp hfn hc ?_
  rw [hb] at he
  refine snd_code cx n c ann _ _ _ w _ g he (by rw [hnt]; exact RS.start fn.ntmps ha hw) (fun e st a w' g' hk hr => ?_)
  have key : evResL st F.res (fun l => K (mkTup l) st.objs) = some x → a.defers = [] ∧ ∃ v, (results fn a.tmps).run P w' = .ok v w' ∧ R (.returned v) w' := by
    intro hk
    obtain ⟨us, ys, hk, hl, hall, hrun⟩ := snd_resL hrs hk hr
    obtain ⟨hrep, _⟩ := mkTup_rep hl hall
    refine ⟨hr.defers, _, ?_, hR _ _ _ w' g' hk hrep hr.wf hr.fr⟩
    rw [results_eq, Sem.run_bind, Array.mapM_eq_mapM_toList, Sem.run_map, hrun]
    rfl
  cases e with
  | normal => exact key hk
  | ret => exact key hk
  | exit id => cases hk

theorem Enters.of_tr {cr : Option FuncId → Option CR} {f : FuncId} {ann : Ann} {F : AFn} (h : trF P cr f ann = some F) : Enters P f := by
  obtain ⟨fn, c, hfn, hc, _, hn, _, _⟩ := trF_inv h
  exact ⟨fn, hfn, by rw [hc]; rfl, hn⟩

/-- What an evaluation of a function's syntax tells of its calls. -/
theorem FnM_of_ev (hst : ∀ w w' : World, Gl w → (∀ b, b < B0 → w'.heap[b]? = w.heap[b]?) → Gl w') (ih : SoundC P Gl B0 C) {cr : Option FuncId → Option CR} {f : FuncId} {ann : Ann} {F : AFn} {n : Nat} {args : List AV} {objs : List AObj} {r : AV} {objs' : List AObj}
    (htr : trF P cr f ann = some F) (h : evFn C 0 n F args objs (endM objs.length) = some (r, objs')) : FnM P Gl B0 f args objs r objs' := by
  refine ⟨.of_tr htr, fun w g vs hg hlow ha hw => snd_fn ⟨hst, ih, hlow, hg⟩ htr h ha hw (fun y obs v w' g' hk hrep hwf hfr => ?_)⟩
  have hm : ∀ o b, g.obj o = some b → o < objs.length := by
    intro o b hob
    rcases Nat.lt_or_ge o objs.length with h | h
    · exact h
    · rw [hw.dom o h] at hob; cases hob
  have hle : objs.length ≤ obs.length := by
    rcases Nat.lt_or_ge obs.length objs.length with h | h
    · obtain ⟨b, hb1, _⟩ := hw.rep obs.length objs[obs.length] (by simp [h])
      have := hfr.obj _ _ hb1
      rw [hwf.dom _ (Nat.le_refl _)] at this; cases this
    · exact h
  unfold endM at hk
  cases hb : (belowA objs.length y && (obs.take objs.length).all (belowO objs.length)) with
  | true =>
    rw [hb] at hk
    cases hk
    simp only [Bool.and_eq_true] at hb
    exact ⟨v, g'.cut objs.length, rfl, cut_rep hrep hb.1, hwf.cut hb.2, hfr.cut hm, by rw [List.length_take]; omega⟩
  | false =>
    rw [hb] at hk
    cases hk
    exact ⟨v, g', rfl, hrep, hwf, hfr, hle⟩

theorem snd_ev (hst : ∀ w w' : World, Gl w → (∀ b, b < B0 → w'.heap[b]? = w.heap[b]?) → Gl w') (hT : TabOK P Gl B0 T) : ∀ k, SoundC P Gl B0 (ev T k)
  | 0 => ⟨(fun f args objs p h => by cases h), (fun f args objs p h => by cases h), (fun f args objs p h => by cases h), (fun f args objs r objs' h => by cases h)⟩
  | k + 1 => by
    have ih := snd_ev hst hT k
    have hR : ∀ f args objs p, (ev T (k + 1)).R f args objs = some p → FnR P Gl B0 f args objs p := by
      intro f args objs p h
      simp only [ev] at h
      split at h
      · rename_i F hF
        obtain ⟨cr, ann, htr⟩ := hT.fn f F hF
        refine ⟨.of_tr htr, fun w g vs hg hlow ha hw hown => snd_fn ⟨hst, ih, hlow, hg⟩ htr h ha hw (fun y objs' v w' g' hk hrep hwf hfr => ?_)⟩
        unfold endR at hk
        split at hk
        · rename_i q
          cases hk
          have hno : ∀ b, ¬ Wr objs.length g b := by
            rintro b (⟨o, ho, hob⟩ | ⟨p, hp⟩)
            · rw [hw.dom o ho] at hob; cases hob
            · rw [hown b] at hp; cases hp
          exact ⟨v, g'.com, rfl, hrep.pv_inv, ⟨hfr.os, hfr.tape, hfr.output, hfr.size, fun b hb => ⟨hfr.blk b hb (hno b), hfr.com b hb (hno b)⟩, hwf.fresh⟩⟩
        · cases hk
      · rename_i R M hF
        exact hT.R f R M hF args objs p h
      · cases h
    have hM : ∀ f args objs r objs', (ev T (k + 1)).M f args objs = some (r, objs') → FnM P Gl B0 f args objs r objs' := by
      intro f args objs r objs' h
      simp only [ev, Caller.M] at h
      split at h
      · rename_i F hF
        obtain ⟨cr, ann, htr⟩ := hT.fn f F hF
        exact FnM_of_ev hst ih htr h
      · rename_i R M hF
        exact hT.M f R M hF args objs r objs' h
      · rename_i H hF
        exact hT.H f H hF _ ih args objs r objs' h
      · cases h
    exact ⟨fun f args objs p h => (hR f args objs p h).1, fun f args objs r h => (hM f args objs r.1 r.2 h).1, fun f args objs p h => (hR f args objs p h).2, fun f args objs r objs' h => (hM f args objs r objs' h).2⟩

/-- A call of trees. -/
theorem evP_calls (hst : ∀ w w' : World, Gl w → (∀ b, b < B0 → w'.heap[b]? = w.heap[b]?) → Gl w') (hT : TabOK P Gl B0 T) {k : Nat} {f : FuncId} {args : List PV} {p : PV} (he : evP T k f args = some p)
    {com : Nat → Nat} {vs : List Value} (hg : Gl w) (hB : B0 ≤ w.heap.size) (hfresh : ∀ b, w.heap.size ≤ b → com b = 0) (hl : vs.length = args.length) (ha : ∀ (i : Nat) (v : Value) (q : PV), vs[i]? = some v → args[i]? = some q → RepP w com v q) :
    Calls P f vs.toArray w fun e w' => ∃ v com', e = .returned v ∧ RepP w' com' v p ∧ Quiet w com w' com' := by
  refine (snd_ev hst hT k).R f (args.map .pv) [] p he w ⟨com, fun _ => none, fun _ => none⟩ vs hg ⟨hB, (fun o b h => by cases h), (fun b p h => by cases h)⟩ ⟨by simpa using hl, fun i v x hv hx => ?_⟩
    ⟨(fun _ _ => rfl), (fun o ob h => by simp at h), (fun o o' b h => by cases h), hfresh, (fun o b h => by cases h), (fun b p h => by cases h), (fun o b p h => by cases h)⟩ (fun _ => rfl)
  rw [List.getElem?_map] at hx
  obtain ⟨q, hq, rfl⟩ := Option.map_eq_some_iff.1 hx
  exact ⟨.pv _ _ (ha i v q hv hq), by simp⟩
end
end Go.Cx
