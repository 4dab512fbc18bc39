/- Objects that are let go; objects that come back, and new ones. -/
import Derived.Test.YtjaeanhgcijfoaaGreatDoorCxCall
set_option linter.unusedSimpArgs false
set_option linter.unusedVariables false
namespace Go.Cx
open Go.RowKit
section
variable {ro : Nat} {w0 w w' : World} {g0 g g' g1 : G} {a : Act} {st : St} {objs objs' : List AObj} {ids : List Nat}

def G.cut (g : G) (m : Nat) : G := { g with obj := fun o => if o < m then g.obj o else none }

theorem belowL_get {m : Nat} : ∀ {l : List AV}, belowL m l = true → ∀ {j : Nat} {x : AV}, l[j]? = some x → belowA m x = true
  | [], _, j, x, h => by simp at h
  | y :: r, hl, j, x, h => by
    simp only [belowL, Bool.and_eq_true] at hl
    cases j with
    | zero => simp at h; subst h; exact hl.1
    | succ j => simp at h; exact belowL_get hl.2 h

theorem cut_rep {m : Nat} {v : Value} {x : AV} (h : RepA w g v x) : belowA m x = true → RepA w (g.cut m) v x := by
  induction h with
  | any v => intro _; exact .any v
  | pv v p h => intro _; exact .pv v p h
  | own v sz xs h => intro _; exact .own v sz xs h
  | nil sz => intro _; exact .nil sz
  | ptr o off b h =>
    intro hb
    have : o < m := by
      simp only [belowA, Nat.blt] at hb
      exact Nat.le_of_ble_eq_true hb
    exact .ptr o off b (by simp [G.cut, this, h])
  | rp b off c val h1 h2 h3 => intro _; exact .rp b off c val h1 h2 h3
  | fn f fs cs as bs hf hc ha hb iha ihb =>
    intro hi
    simp only [belowA, Bool.and_eq_true] at hi
    exact .fn f fs cs _ _ hf hc (fun j v y hv hy => iha j v y hv hy (belowL_get hi.1 hy)) (fun j v y hv hy => ihb j v y hv hy (belowL_get hi.2 hy))
  | agg cs as hs hr ih => intro hi; simp only [belowA] at hi; exact .agg cs _ hs (fun j v y hv hy => ih j v y hv hy (belowL_get hi hy))
  | tup cs as hs hr ih => intro hi; simp only [belowA] at hi; exact .tup cs _ hs (fun j v y hv hy => ih j v y hv hy (belowL_get hi hy))

theorem WF.cut {objs : List AObj} {m : Nat} (h : WF w g objs) (hb : (objs.take m).all (belowO m) = true) : WF w (g.cut m) (objs.take m) := by
  refine ⟨fun o ho => ?_, fun o ob hob => ?_, fun o o' b h1 h2 => ?_, h.fresh, fun o b h1 => ?_, h.ownlt, fun o b p h1 h2 => ?_⟩
  · show (if o < m then g.obj o else none) = none
    split
    · exact h.dom o (by simp at ho; omega)
    · rfl
  · have hm : o < m := by
      have := (List.getElem?_eq_some_iff.1 hob).1
      simp at this; omega
    have hob' : objs[o]? = some ob := by rw [List.getElem?_take] at hob; rwa [if_pos hm] at hob
    obtain ⟨b, h1, h2⟩ := h.rep o ob hob'
    refine ⟨b, by simp [G.cut, hm, h1], ?_⟩
    have hbo := List.all_eq_true.1 hb ob (List.mem_of_getElem? hob)
    cases ob with
    | iter s pos => exact h2
    | cells c =>
      obtain ⟨cs, e, h3, h4, h5⟩ := h2
      exact ⟨cs, e, h3, h4, fun j v x hv hx => ⟨cut_rep (h5 j v x hv hx).1 (belowL_get hbo hx), (h5 j v x hv hx).2⟩⟩
  · have h1 : (if o < m then g.obj o else none) = some b := h1
    have h2 : (if o' < m then g.obj o' else none) = some b := h2
    split at h1
    · split at h2
      · exact h.inj o o' b h1 h2
      · cases h2
    · cases h1
  · have h1 : (if o < m then g.obj o else none) = some b := h1
    split at h1
    · exact h.comobj o b h1
    · cases h1
  · have h1 : (if o < m then g.obj o else none) = some b := h1
    split at h1
    · exact h.ownobj o b p h1 h2
    · cases h1


theorem Fr.cut {m : Nat} (hf : Fr ro w g w' g1) (hm : ∀ o b, g.obj o = some b → o < m) : Fr ro w g w' (g1.cut m) :=
  ⟨hf.os, hf.tape, hf.output, hf.size, hf.blk, hf.keeps, hf.com, fun o b h => by
      show (if o < m then g1.obj o else none) = some b
      rw [if_pos (hm o b h)]; exact hf.obj o b h,
    (fun o b h => by
      have h : (if o < m then g1.obj o else none) = some b := h
      split at h
      · exact hf.objn o b h
      · cases h), hf.own⟩
end
end Go.Cx
