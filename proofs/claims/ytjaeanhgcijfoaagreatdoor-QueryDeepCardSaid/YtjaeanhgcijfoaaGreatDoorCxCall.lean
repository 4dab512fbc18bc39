/- Calls: objects are lent, and come back. -/
import Derived.Test.YtjaeanhgcijfoaaGreatDoorCxBuild
set_option linter.unusedSimpArgs false
set_option linter.unusedVariables false
namespace Go.Cx
open Go.RowKit

theorem nodupB_idx : ∀ {ids : List Nat}, nodupB ids = true → ∀ {i o : Nat}, ids[i]? = some o → ids.idxOf o = i
  | [], _, i, o, h => by simp at h
  | o' :: r, hn, i, o, h => by
    simp only [nodupB, Bool.and_eq_true, Bool.not_eq_true'] at hn
    cases i with
    | zero => simp at h; subst h; simp
    | succ i =>
      simp at h
      have hne : o' ≠ o := by
        intro he; subst he
        have : o' ∈ r := List.mem_of_getElem? h
        have h1 := hn.1
        simp at h1
        exact h1 this
      have := nodupB_idx hn.2 h
      rw [List.idxOf_cons]
      have hb : (o' == o) = false := by simpa using hne
      rw [hb]; simp [this]

/-- The ghost of what is lent. -/
def G.lend (g : G) (ids : List Nat) (ow : Bool) : G where
  com := g.com
  obj := fun i => (ids[i]?).bind g.obj
  own := fun b => if ow then (g.own b).bind (fun p => match p with
    | (0, _) => none
    | (o + 1, j) => if ids.contains o then some (ids.idxOf o + 1, j) else none) else none

section
variable {w : World} {g : G} {ids : List Nat} {ow : Bool}

theorem lend_obj {o b : Nat} (h : ids.contains o = true) (hb : g.obj o = some b) : (g.lend ids ow).obj (ids.idxOf o) = some b := by
  have hm : o ∈ ids := by simpa using h
  have hi := List.idxOf_lt_length_of_mem hm
  show (ids[ids.idxOf o]?).bind g.obj = some b
  rw [List.getElem?_eq_getElem hi, List.getElem_idxOf hi]
  exact hb

theorem inL_get : ∀ {l : List AV}, inL ids l = true → ∀ {j : Nat} {x : AV}, l[j]? = some x → inA ids x = true
  | [], _, j, x, h => by simp at h
  | y :: r, hl, j, x, h => by
    simp only [inL, Bool.and_eq_true] at hl
    cases j with
    | zero => simp at h; subst h; exact hl.1
    | succ j => simp at h; exact inL_get hl.2 h

theorem renL_get : ∀ {l : List AV} {j : Nat} {y : AV}, (renL ids l)[j]? = some y → ∃ x, l[j]? = some x ∧ y = renA ids x
  | [], j, y, h => by simp [renL] at h
  | x :: r, j, y, h => by
    simp only [renL] at h
    cases j with
    | zero => simp at h; exact ⟨x, rfl, h.symm⟩
    | succ j => simp at h; obtain ⟨x', hx, hy⟩ := renL_get (l := r) h; exact ⟨x', by simpa using hx, hy⟩
theorem renL_length : ∀ (l : List AV), (renL ids l).length = l.length
  | [] => rfl
  | x :: r => by simp [renL, renL_length r]

theorem ren_rep {v : Value} {x : AV} (h : RepA w g v x) : inA ids x = true → RepA w (g.lend ids ow) v (renA ids x) := by
  induction h with
  | any v => intro _; simp only [renA]; exact .any v
  | pv v p h => intro _; simp only [renA]; exact .pv v p h
  | own v sz xs h => intro _; simp only [renA]; exact .own v sz xs h
  | nil sz => intro _; simp only [renA]; exact .nil sz
  | ptr o off b h => intro hi; simp only [renA]; exact .ptr _ off b (lend_obj (by simpa [inA] using hi) h)
  | rp b off c val h1 h2 h3 => intro _; simp only [renA]; exact .rp b off c val h1 h2 h3
  | fn f fs cs as bs hf hc ha hb iha ihb =>
    intro hi
    simp only [inA, Bool.and_eq_true] at hi
    simp only [renA]
    refine .fn f fs cs _ _ (by rw [renL_length]; exact hf) (by rw [renL_length]; exact hc) (fun j v y hv hy => ?_) (fun j v y hv hy => ?_)
    · obtain ⟨x, hx, rfl⟩ := renL_get hy; exact iha j v x hv hx (inL_get hi.1 hx)
    · obtain ⟨x, hx, rfl⟩ := renL_get hy; exact ihb j v x hv hx (inL_get hi.2 hx)
  | agg cs as hs hr ih =>
    intro hi
    simp only [inA] at hi
    simp only [renA]
    exact .agg cs _ (by rw [renL_length]; exact hs) (fun j v y hv hy => by obtain ⟨x, hx, rfl⟩ := renL_get hy; exact ih j v x hv hx (inL_get hi hx))
  | tup cs as hs hr ih =>
    intro hi
    simp only [inA] at hi
    simp only [renA]
    exact .tup cs _ (by rw [renL_length]; exact hs) (fun j v y hv hy => by obtain ⟨x, hx, rfl⟩ := renL_get hy; exact ih j v x hv hx (inL_get hi hx))

theorem renA_own {x : AV} (h : ∀ sz xs, x ≠ .own sz xs) (sz xs) : renA ids x ≠ .own sz xs := by
  cases x <;> simp only [renA] <;> first | exact h _ _ | simp

/-- Values that are handed over. -/
def ArgsRep (w : World) (g : G) (vs : List Value) (args : List AV) : Prop :=
  vs.length = args.length ∧ ∀ (i : Nat) (v : Value) (x : AV), vs[i]? = some v → args[i]? = some x → RepA w g v x ∧ ∀ sz xs, x ≠ .own sz xs

theorem ArgsRep.ren {vs : List Value} {args : List AV} (h : ArgsRep w g vs args) (hi : inL ids args = true) : ArgsRep w (g.lend ids ow) vs (renL ids args) := by
  refine ⟨by rw [renL_length]; exact h.1, fun i v y hv hy => ?_⟩
  obtain ⟨x, hx, rfl⟩ := renL_get hy
  obtain ⟨h1, h2⟩ := h.2 i v x hv hx
  exact ⟨ren_rep h1 (inL_get hi hx), renA_own h2⟩

theorem lend_get {objs : List AObj} {i : Nat} {y : AObj} (h : (lend objs ids)[i]? = some y) : ∃ o, ids[i]? = some o ∧ y = renO ids (objs.getD o (.cells [])) := by
  unfold lend at h
  rw [List.getElem?_map] at h
  obtain ⟨o, ho, rfl⟩ := Option.map_eq_some_iff.1 h
  exact ⟨o, ho, rfl⟩

theorem lend_own {b : Nat} {p : Nat × Nat} (h : (g.lend ids ow).own b = some p) : ow = true ∧ ∃ o j, g.own b = some (o + 1, j) ∧ ids.contains o = true ∧ p = (ids.idxOf o + 1, j) := by
  have h : (if ow then (g.own b).bind (fun p => match p with
    | (0, _) => none
    | (o + 1, j) => if ids.contains o then some (ids.idxOf o + 1, j) else none) else none) = some p := h
  split at h
  · rename_i how
    refine ⟨how, ?_⟩
    cases hg : g.own b with
    | none => rw [hg] at h; simp at h
    | some q =>
      rw [hg] at h
      obtain ⟨o, j⟩ := q
      cases o with
      | zero => simp at h
      | succ o =>
        simp only [Option.bind_some] at h
        split at h
        · rename_i hc; cases h; exact ⟨o, j, rfl, hc, rfl⟩
        · cases h
  · cases h

theorem okIds_spec {objs : List AObj} {args : List AV} (h : okIds objs args ids = true) : nodupB ids = true ∧ inL ids args = true ∧ ∀ (i o : Nat), ids[i]? = some o → o < objs.length ∧ inO ids (objs.getD o (.cells [])) = true := by
  simp only [okIds, Bool.and_eq_true] at h
  refine ⟨h.1.1, h.1.2, fun i o ho => ?_⟩
  have := List.all_eq_true.1 h.2 o (List.mem_of_getElem? ho)
  simp only [Bool.and_eq_true] at this
  exact ⟨by have := Nat.le_of_ble_eq_true this.1; omega, this.2⟩

theorem WF.lend {objs : List AObj} {args : List AV} (h : WF w g objs) (hk : okIds objs args ids = true) (f : AObj → AObj)
    (hf : ∀ (i o b : Nat) (ob : AObj), ids[i]? = some o → objs[o]? = some ob → g.obj o = some b → RepObj w g o b ob → RepObj w (g.lend ids ow) i b (f (renO ids ob))) :
    WF w (g.lend ids ow) ((Go.Cx.lend objs ids).map f) := by
  obtain ⟨hn, hi, hall⟩ := okIds_spec hk
  have hlen : ((Go.Cx.lend objs ids).map f).length = ids.length := by simp [Go.Cx.lend]
  refine ⟨fun o ho => ?_, fun i y hy => ?_, fun i i' b hb hb' => ?_, h.fresh, fun i b hb => ?_, fun b p hp => ?_, fun i b p hb hp => ?_⟩
  · show (ids[o]?).bind g.obj = none
    rw [List.getElem?_eq_none (by omega)]; rfl
  · rw [List.getElem?_map] at hy
    obtain ⟨z, hz, rfl⟩ := Option.map_eq_some_iff.1 hy
    obtain ⟨o, ho, rfl⟩ := lend_get hz
    obtain ⟨hlt, _⟩ := hall i o ho
    have hob : objs[o]? = some (objs.getD o (.cells [])) := by simp [List.getD, hlt]
    obtain ⟨b, hb, hr⟩ := h.rep o _ hob
    refine ⟨b, ?_, hf i o b _ ho hob hb hr⟩
    show (ids[i]?).bind g.obj = some b
    rw [ho]; exact hb
  · have hb : (ids[i]?).bind g.obj = some b := hb
    have hb' : (ids[i']?).bind g.obj = some b := hb'
    cases hx : ids[i]? with
    | none => rw [hx] at hb; cases hb
    | some o =>
      cases hx' : ids[i']? with
      | none => rw [hx'] at hb'; cases hb'
      | some o' =>
        rw [hx] at hb; rw [hx'] at hb'
        have := h.inj o o' b hb hb'
        subst this
        rw [← nodupB_idx hn hx, ← nodupB_idx hn hx']
  · have hb : (ids[i]?).bind g.obj = some b := hb
    cases hx : ids[i]? with
    | none => rw [hx] at hb; cases hb
    | some o => rw [hx] at hb; exact h.comobj o b hb
  · obtain ⟨_, o, j, hg, _⟩ := lend_own hp
    exact h.ownlt b _ hg
  · obtain ⟨_, o, j, hg, _⟩ := lend_own hp
    have hb : (ids[i]?).bind g.obj = some b := hb
    cases hx : ids[i]? with
    | none => rw [hx] at hb; cases hb
    | some o => rw [hx] at hb; exact h.ownobj o b _ hb hg

theorem repObj_view {i o b : Nat} {ob : AObj} (hin : inO ids ob = true) (h : RepObj w g o b ob) : RepObj w (g.lend ids ow) i b (viewO (renO ids ob)) := by
  cases ob with
  | iter s pos => exact h
  | cells c =>
    obtain ⟨cs, e, h1, h2, h3⟩ := h
    refine ⟨cs, e, h1, by simp [renL_length, h2], fun j v y hv hy => ?_⟩
    rw [List.getElem?_map] at hy
    obtain ⟨z, hz, rfl⟩ := Option.map_eq_some_iff.1 hy
    obtain ⟨x, hx, rfl⟩ := renL_get hz
    exact ⟨(ren_rep (h3 j v x hv hx).1 (inL_get hin hx)).view, OwnAt.of_view _ _ _ _ _⟩

theorem repObj_own {i o b : Nat} {ob : AObj} (hn : nodupB ids = true) (hi : ids[i]? = some o) (hin : inO ids ob = true) (h : RepObj w g o b ob) : RepObj w (g.lend ids true) i b (renO ids ob) := by
  cases ob with
  | iter s pos => exact h
  | cells c =>
    obtain ⟨cs, e, h1, h2, h3⟩ := h
    refine ⟨cs, e, h1, by simp [renL_length, h2], fun j v y hv hy => ?_⟩
    obtain ⟨x, hx, rfl⟩ := renL_get hy
    obtain ⟨r1, r2⟩ := h3 j v x hv hx
    refine ⟨ren_rep r1 (inL_get hin hx), fun sz xs he => ?_⟩
    have hx' : x = .own sz xs := by
      cases x <;> simp only [renA] at he <;> first | exact he | cases he
    subst hx'
    obtain ⟨A, n, c', rfl, hc | ⟨b', cs', e', hA, hb', hr⟩⟩ := r2 sz xs rfl
    · exact ⟨A, n, c', rfl, .inl hc⟩
    · refine ⟨A, n, c', rfl, .inr ⟨b', cs', e', hA, ?_, hr⟩⟩
      show (if true = true then (g.own b').bind _ else none) = _
      rw [if_pos rfl, hb']
      have hc : ids.contains o = true := by simpa using List.mem_of_getElem? hi
      simp only [Option.bind_some, hc, if_true, nodupB_idx hn hi]
end

/-- What is low stays. -/
structure Low (B0 : Nat) (w : World) (g : G) : Prop where
  base : B0 ≤ w.heap.size
  obj : ∀ o b, g.obj o = some b → B0 ≤ b
  own : ∀ b p, g.own b = some p → B0 ≤ b

/-- Nothing that was there has turned. -/
structure Quiet (w : World) (com : Nat → Nat) (w' : World) (com' : Nat → Nat) : Prop where
  os : w'.os = w.os
  tape : w'.tape = w.tape
  output : w'.output = w.output
  size : w.heap.size ≤ w'.heap.size
  blk : ∀ b, b < w.heap.size → w'.heap[b]? = w.heap[b]? ∧ com' b = com b
  fresh : ∀ b, w'.heap.size ≤ b → com' b = 0

/-- Calls go as they are evaluated. 'Gl': what is known of the program's own variables, in the blocks below B0. -/
def Enters (P : Program) (f : FuncId) : Prop := ∃ fn, P.funcs[f]? = some fn ∧ fn.body.isSome = true ∧ fn.name ≠ "runtime.NumGoroutine"

structure SoundC (P : Program) (Gl : World → Prop) (B0 : Nat) (C : Caller) : Prop where
  entR : ∀ f args objs p, C.R f args objs = some p → Enters P f
  entM : ∀ f args objs r, C.M f args objs = some r → Enters P f
  R : ∀ f args objs p, C.R f args objs = some p → ∀ w g vs, Gl w → Low B0 w g → ArgsRep w g vs args → WF w g objs → (∀ b, g.own b = none) →
    Calls P f vs.toArray w fun e w' => ∃ v com', e = .returned v ∧ RepP w' com' v p ∧ Quiet w g.com w' com'
  M : ∀ f args objs r objs', C.M f args objs = some (r, objs') → ∀ w g vs, Gl w → Low B0 w g → ArgsRep w g vs args → WF w g objs →
    Calls P f vs.toArray w fun e w' => ∃ v g', e = .returned v ∧ RepA w' g' v r ∧ WF w' g' objs' ∧ Fr 0 w g w' g' ∧ objs.length ≤ objs'.length

section
variable {β : Type} {P : Program} {Gl : World → Prop} {B0 ro : Nat} {w0 w w' : World} {g0 g g' : G} {o : Oper} {a : Act} {st : St} {K : St → AV → Option β} {x : β} {C : Caller} {objs : List AObj}

theorem RS.quiet {com' : Nat → Nat} (h : RS ro w0 g0 a w st g) (hq : Quiet w g.com w' com') : RS ro w0 g0 a w' st { g with com := com' } ∧ Keeps w g.com w' com' := by
  have hk : Keeps w g.com w' com' := by
    refine ⟨fun b => ?_, fun b o ho => ?_⟩
    · by_cases hb : b < w.heap.size
      · rw [(hq.blk b hb).2]; exact Nat.le_refl _
      · rw [h.wf.fresh b (by omega)]; exact Nat.zero_le _
    · have hb := h.wf.com_lt (b := b) (by omega)
      simp only [World.cell?, (hq.blk b hb).1]
  have hold : ∀ p, Hold w g w' { g with com := com' } p := fun p b hb => ⟨hb, (hq.blk b (h.wf.ownlt b p hb)).2, (hq.blk b (h.wf.ownlt b p hb)).1⟩
  refine ⟨h.step (objs := st.objs) (g' := { g with com := com' }) ⟨hq.os, hq.tape, hq.output, hq.size, fun b hb _ => (hq.blk b hb).1, hk, fun b hb _ => (hq.blk b hb).2, fun _ _ h => h, fun _ _ h => .inl h, fun b p hp => .inr (.inr ⟨p, hp⟩)⟩
    ⟨h.wf.dom, fun o ob hob => ?_, h.wf.inj, hq.fresh, fun o b ho => ?_, fun b p hp => Nat.lt_of_lt_of_le (h.wf.ownlt b p hp) hq.size, h.wf.ownobj⟩ (fun t _ => hold _), hk⟩
  · obtain ⟨b, hb, hr⟩ := h.wf.rep o ob hob
    exact ⟨b, hb, hr.step (g' := { g with com := com' }) hk (fun _ _ h => h) (hq.blk b (h.wf.block_lt hb)).1 (fun j => hold _)⟩
  · show com' b = 0
    rw [(hq.blk b (h.wf.block_lt ho)).2]
    exact h.wf.comobj o b ho

mutual
theorem asV_inv : ∀ {vt : VT} {p : PV} {L : PV → Option β}, asV vt p L = some x → L p = some x
  | .c t, p, L, h => by
    simp only [asV] at h
    exact (asC_inv h).1
  | .agg ts, p, L, h => by
    simp only [asV] at h
    rw [pAgg_eq] at h
    split at h
    · rename_i c
      obtain ⟨hl, h⟩ := cond_some_none h
      have hl := Nat.eq_of_beq_eq_true hl
      obtain ⟨ps, h1, h2, h3⟩ := asCs_inv h
      have : ps = c := by
        apply List.ext_getElem?
        intro i
        by_cases hi : i < ts.length
        · obtain ⟨p, hp, hq⟩ := h3 i hi
          rw [hp]; simpa using hq.symm
        · rw [List.getElem?_eq_none (by omega), List.getElem?_eq_none (by omega)]
      rw [this] at h1
      exact h1
    · cases h
  | .tup ts, p, L, h => by
    simp only [asV] at h
    rw [pTup_eq] at h
    split at h
    · rename_i c
      obtain ⟨hl, h⟩ := cond_some_none h
      have hl := Nat.eq_of_beq_eq_true hl
      obtain ⟨ps, h1, h2, h3⟩ := asVs_inv h
      have : ps = c := by
        apply List.ext_getElem?
        intro i
        by_cases hi : i < ts.length
        · have := h3 i hi
          rw [this, Nat.zero_add, List.getD_eq_getElem?_getD, List.getElem?_eq_getElem (by omega)]
          rfl
        · rw [List.getElem?_eq_none (by omega), List.getElem?_eq_none (by omega)]
      rw [this] at h1
      exact h1
    · cases h
theorem asVs_inv : ∀ {ts : List VT} {j : Nat} {cs : List PV} {L : List PV → Option β}, asVs ts j cs L = some x → ∃ ps, L ps = some x ∧ ps.length = ts.length ∧ ∀ i, i < ts.length → ps[i]? = some (cs.getD (j + i) .bad)
  | [], j, cs, L, h => ⟨[], h, rfl, fun i hi => by simp at hi⟩
  | t :: ts, j, cs, L, h => by
    simp only [asVs] at h
    have h1 := asV_inv h
    obtain ⟨ps, h2, h3, h4⟩ := asVs_inv h1
    refine ⟨_, h2, by simp [h3], fun i hi => ?_⟩
    cases i with
    | zero => rfl
    | succ i =>
      have := h4 i (by simp at hi; omega)
      simp only [List.getElem?_cons_succ]
      rw [this, show j + 1 + i = j + (i + 1) from by omega]
end
end
end Go.Cx
