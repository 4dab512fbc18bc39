/- Calls go as they are evaluated. -/
import Derived.Test.YtjaeanhgcijfoaaGreatDoorCxWide
set_option linter.unusedSimpArgs false
set_option linter.unusedVariables false
namespace Go.Cx
open Go.RowKit

section
variable {β : Type} {P : Program} {Gl : World → Prop} {B0 ro : Nat} {w0 w w' : World} {g0 g g' : G} {o : Oper} {a : Act} {st : St} {K : St → AV → Option β} {x : β} {C : Caller} {objs : List AObj}

theorem Low.fr (h : Low B0 w0 g0) (hf : Fr ro w0 g0 w g) : Low B0 w g := by
  refine ⟨Nat.le_trans h.base hf.size, fun o b hb => ?_, fun b p hp => ?_⟩
  · rcases hf.objn o b hb with h1 | h1
    · exact h.obj o b h1
    · exact Nat.le_trans h.base h1
  · rcases hf.own b p hp with h1 | ⟨o, _, h1⟩ | ⟨p', h1⟩
    · exact Nat.le_trans h.base h1
    · exact h.obj o b h1
    · exact h.own b p' h1

theorem gl_fr (hst : ∀ w w' : World, Gl w → (∀ b, b < B0 → w'.heap[b]? = w.heap[b]?) → Gl w') (h : Low B0 w0 g0) (hf : Fr ro w0 g0 w g) (hg : Gl w0) : Gl w := by
  refine hst w0 w hg (fun b hb => hf.blk b (Nat.lt_of_lt_of_le hb h.base) ?_)
  rintro (⟨o, _, h1⟩ | ⟨p, h1⟩)
  · have := h.obj o b h1; omega
  · have := h.own b p h1; omega

theorem trArgs_rep : ∀ {l : List Operand} {ts : List TypeId} {as : List AO}, trArgs P l ts = some as → RepE w g a.tmps st.env →
    l.length = as.length ∧ ∀ (j : Nat) (y : Operand) (z : AO), l[j]? = some y → as[j]? = some z → RepA w g (a.eval y) (st.get z)
  | [], ts, as, h, _ => by simp [trArgs] at h; subst h; simp
  | y :: r, [], as, h, _ => by simp [trArgs] at h
  | y :: r, t :: ts, as, h, he => by
    simp only [trArgs] at h
    split at h
    · rename_i p q hp hq
      simp at h; subst h
      obtain ⟨h1, h2⟩ := trArgs_rep hq he
      refine ⟨by simp [h1], fun j y' z' hy hz => ?_⟩
      cases j with
      | zero => simp at hy hz; subst hy; subst hz; exact trO_rep hp he
      | succ j => simp at hy hz; exact h2 j y' z' hy hz
    · cases h

theorem append_get {α : Type} {l m : List α} {i : Nat} {v : α} (h : (l ++ m)[i]? = some v) : (i < l.length ∧ l[i]? = some v) ∨ (l.length ≤ i ∧ m[i - l.length]? = some v) := by
  by_cases hi : i < l.length
  · rw [List.getElem?_append_left hi] at h; exact .inl ⟨hi, h⟩
  · rw [List.getElem?_append_right (by omega)] at h; exact .inr ⟨by omega, h⟩

theorem rep_append {vs us : List Value} {as bs : List AV} (hl : vs.length = as.length) (h1 : ∀ (i : Nat) (v : Value) (x : AV), vs[i]? = some v → as[i]? = some x → RepA w g v x)
    (h2 : ∀ (i : Nat) (v : Value) (x : AV), us[i]? = some v → bs[i]? = some x → RepA w g v x) : ∀ (i : Nat) (v : Value) (x : AV), (vs ++ us)[i]? = some v → (as ++ bs)[i]? = some x → RepA w g v x := by
  intro i v x hv hx
  rcases append_get hv with ⟨k1, k2⟩ | ⟨k1, k2⟩ <;> rcases append_get hx with ⟨m1, m2⟩ | ⟨m1, m2⟩
  · exact h1 i v x k2 m2
  · omega
  · omega
  · rw [← hl] at m2; exact h2 _ v x k2 m2

theorem shut_rep {v : Value} {x : AV} (h : RepA w g v x) : RepA w g v x.shut := by
  cases x with
  | agg l =>
    cases h with
    | agg cs _ hs hr => exact mkAgg_rep hs hr
  | _ => exact h.view
theorem shut_ne (x : AV) (sz xs) : x.shut ≠ .own sz xs := by
  cases x with
  | agg l => exact mkAgg_ne l sz xs
  | _ => simp [AV.shut, AV.view]

theorem argsRep_view {vs : List Value} {as : List AV} (hl : vs.length = as.length) (h : ∀ (i : Nat) (v : Value) (x : AV), vs[i]? = some v → as[i]? = some x → RepA w g v x) : ArgsRep w g vs (as.map AV.shut) := by
  refine ⟨by simpa using hl, fun i v x hv hx => ?_⟩
  rw [List.getElem?_map] at hx
  obtain ⟨y, hy, rfl⟩ := Option.map_eq_some_iff.1 hx
  exact ⟨shut_rep (h i v y hv hy), shut_ne _⟩

theorem asOT_inv {t : OT} {v : AV} {L : AV → Option β} (h : asOT t v L = some x) : L v = some x ∧ ((∃ p, v = .pv p) ∨ ∃ sz xs, v = .own sz xs) := by
  unfold asOT at h
  split at h
  · split at h
    · rename_i p
      exact ⟨(asC_inv h).1, .inl ⟨p, rfl⟩⟩
    · cases h
  · split at h
    · rename_i z' xs
      obtain ⟨h1, h2⟩ := cond_some_none h
      have := Nat.eq_of_beq_eq_true h1
      subst this
      exact ⟨h2, .inr ⟨_, _, rfl⟩⟩
    · cases h

theorem asOTs_inv : ∀ {ts : List OT} {j : Nat} {cs : List AV} {L : List AV → Option β}, asOTs ts j cs L = some x →
    ∃ vs, L vs = some x ∧ vs.length = ts.length ∧ ∀ i, i < ts.length → vs[i]? = some (cs.getD (j + i) .any) ∧ ((∃ p, cs.getD (j + i) .any = .pv p) ∨ ∃ sz xs, cs.getD (j + i) .any = .own sz xs)
  | [], j, cs, L, h => ⟨[], h, rfl, fun i hi => by simp at hi⟩
  | t :: ts, j, cs, L, h => by
    simp only [asOTs] at h
    obtain ⟨h1, h2⟩ := asOT_inv h
    obtain ⟨vs, h3, h4, h5⟩ := asOTs_inv h1
    refine ⟨_, h3, by simp [h4], fun i hi => ?_⟩
    cases i with
    | zero => exact ⟨rfl, h2⟩
    | succ i =>
      have := h5 i (by simp at hi; omega)
      rw [show j + (i + 1) = j + 1 + i from by omega]
      exact ⟨by simpa using this.1, this.2⟩

/-- Cells that point nowhere. -/
def flatO : AObj → Prop
  | .cells c => ∀ y, y ∈ c → (∃ p, y = .pv p) ∨ ∃ sz xs, y = .own sz xs
  | .iter _ _ => False

theorem asObj_inv {ts : List OT} {ob : AObj} {L : AObj → Option β} (h : asObj ts ob L = some x) : L ob = some x ∧ flatO ob := by
  unfold asObj at h
  split at h
  · rename_i cs
    obtain ⟨h1, h⟩ := cond_some_none h
    have h1 := Nat.eq_of_beq_eq_true h1
    obtain ⟨vs, h2, h3, h4⟩ := asOTs_inv h
    have : vs = cs := by
      apply List.ext_getElem?
      intro i
      by_cases hi : i < ts.length
      · rw [(h4 i hi).1, Nat.zero_add, List.getD_eq_getElem?_getD, List.getElem?_eq_getElem (by omega)]; rfl
      · rw [List.getElem?_eq_none (by omega), List.getElem?_eq_none (by omega)]
    subst this
    refine ⟨h2, fun y hy => ?_⟩
    obtain ⟨i, hi, rfl⟩ := List.getElem_of_mem hy
    have := (h4 i (by omega)).2
    rw [Nat.zero_add, List.getD_eq_getElem?_getD, List.getElem?_eq_getElem hi] at this
    exact this
  · cases h

theorem asObjs_inv : ∀ {ts : List (List OT)} {j : Nat} {obs : List AObj} {L : List AObj → Option β}, asObjs ts j obs L = some x →
    ∃ os, L os = some x ∧ os.length = ts.length ∧ ∀ i, i < ts.length → os[i]? = some (obs.getD (j + i) (.iter default 0)) ∧ flatO (obs.getD (j + i) (.iter default 0))
  | [], j, obs, L, h => ⟨[], h, rfl, fun i hi => by simp at hi⟩
  | t :: ts, j, obs, L, h => by
    simp only [asObjs] at h
    obtain ⟨h1, h2⟩ := asObj_inv h
    obtain ⟨os, h3, h4, h5⟩ := asObjs_inv h1
    refine ⟨_, h3, by simp [h4], fun i hi => ?_⟩
    cases i with
    | zero => exact ⟨rfl, h2⟩
    | succ i =>
      have := h5 i (by simp at hi; omega)
      rw [show j + (i + 1) = j + 1 + i from by omega]
      exact ⟨by simpa using this.1, this.2⟩

theorem flat_below {m : Nat} {ob : AObj} (h : flatO ob) : belowO m ob = true := by
  cases ob with
  | iter s pos => exact h.elim
  | cells c =>
    replace h : ∀ y, y ∈ c → (∃ p, y = .pv p) ∨ ∃ sz xs, y = .own sz xs := h
    show belowL m c = true
    induction c with
    | nil => rfl
    | cons y r ih =>
      simp only [belowL, Bool.and_eq_true]
      refine ⟨?_, ih fun z hz => h z (List.mem_cons_of_mem _ hz)⟩
      rcases h y (by simp) with ⟨p, rfl⟩ | ⟨sz, xs, rfl⟩ <;> rfl

/-- The caller's ghost, when what was lent has come back. -/
def G.back (g g1 : G) (ids : List Nat) : G where
  com := g1.com
  obj := g.obj
  own := fun b => match g1.own b with
    | some (i + 1, j) => (ids[i]?).map fun o => (o + 1, j)
    | _ => match g.own b with
      | some (o + 1, j) => if ids.contains o then none else some (o + 1, j)
      | q => q

theorem RS.back {args : List AV} {ids : List Nat} {g1 : G} {objs' : List AObj} (h : RS ro w0 g0 a w st g) (hk : okIds st.objs args ids = true) (hro : ∀ (i o : Nat), ids[i]? = some o → ro ≤ o)
    (hwf : WF w' g1 objs') (hf : Fr 0 w (g.lend ids true) w' g1) (hlen : objs'.length = ids.length) (hflat : ∀ (i : Nat) (ob : AObj), objs'[i]? = some ob → flatO ob) :
    RS ro w0 g0 a w' { st with objs := backObjs ids objs' st.objs } (g.back g1 ids) := by
  obtain ⟨hn, hin, hall⟩ := okIds_spec hk
  obtain ⟨b1, b2, b3⟩ := backObjs_get (objs := st.objs) hn hlen (fun i o hi => (hall i o hi).1)
  -- what is not lent is not written
  have notWr : ∀ (b : Nat), (∀ (i o : Nat), ids[i]? = some o → g.obj o ≠ some b) → (∀ (o j : Nat), ids.contains o = true → g.own b ≠ some (o + 1, j)) → ¬ Wr 0 (g.lend ids true) b := by
    intro b h1 h2
    rintro (⟨i, _, hi⟩ | ⟨p, hp⟩)
    · have hi : (ids[i]?).bind g.obj = some b := hi
      cases hx : ids[i]? with
      | none => rw [hx] at hi; cases hi
      | some o => rw [hx] at hi; exact h1 i o hx hi
    · obtain ⟨_, o, j, k1, k2, _⟩ := lend_own hp
      exact h2 o j k2 k1
  have ownNone : ∀ b, b < w.heap.size → ¬ Wr 0 (g.lend ids true) b → g1.own b = none := by
    intro b hb hw
    cases hq : g1.own b with
    | none => rfl
    | some p =>
      rcases hf.own b p hq with h1 | h1
      · omega
      · exact absurd h1 hw
  have ownKept : ∀ (b : Nat), g1.own b = none → (∀ (o j : Nat), ids.contains o = true → g.own b ≠ some (o + 1, j)) → (g.back g1 ids).own b = g.own b := by
    intro b h1 h2
    show (match g1.own b with
      | some (i + 1, j) => (ids[i]?).map fun o => (o + 1, j)
      | _ => match g.own b with
        | some (o + 1, j) => if ids.contains o then none else some (o + 1, j)
        | q => q) = g.own b
    rw [h1]
    show (match g.own b with
        | some (o + 1, j) => if ids.contains o then none else some (o + 1, j)
        | q => q) = g.own b
    cases hq : g.own b with
    | none => rfl
    | some p =>
      obtain ⟨o, j⟩ := p
      cases o with
      | zero => rfl
      | succ o =>
        have hc : ids.contains o = false := by
          cases hc : ids.contains o with
          | false => rfl
          | true => exact absurd hq (h2 o j hc)
        simp only [hc, Bool.false_eq_true, if_false]
  -- places that are not lent
  have hold : ∀ p : Nat × Nat, (∀ o, p.1 = o + 1 → ids.contains o = false) → Hold w g w' (g.back g1 ids) p := by
    intro p hp b hb
    have hlt := h.wf.ownlt b p hb
    have h2 : ∀ o j, ids.contains o = true → g.own b ≠ some (o + 1, j) := by
      intro o j hc he
      rw [hb] at he
      have := hp o (by cases he; rfl)
      rw [this] at hc; cases hc
    have hw := notWr b (fun i o hi ho => h.wf.ownobj o b p ho hb) h2
    exact ⟨(ownKept b (ownNone b hlt hw) h2).trans hb, hf.com b hlt hw, hf.blk b hlt hw⟩
  have hkeeps : Keeps w g.com w' (g.back g1 ids).com := hf.keeps
  have objNot : ∀ o b, g.obj o = some b → ids.contains o = false → ¬ Wr 0 (g.lend ids true) b := by
    intro o b hb hc
    refine notWr b (fun i o' hi ho' => ?_) (fun o' j _ he => h.wf.ownobj o b _ hb he)
    have := h.wf.inj o o' b hb ho'
    subst this
    have : ids.contains o = true := by simpa using List.mem_of_getElem? hi
    rw [this] at hc; cases hc
  have backCases : ∀ b p, (g.back g1 ids).own b = some p → (∃ i j o, g1.own b = some (i + 1, j) ∧ ids[i]? = some o ∧ p = (o + 1, j)) ∨ g.own b = some p := by
    intro b p hp
    have hp : (match g1.own b with
      | some (i + 1, j) => (ids[i]?).map fun o => (o + 1, j)
      | _ => match g.own b with
        | some (o + 1, j) => if ids.contains o then none else some (o + 1, j)
        | q => q) = some p := hp
    split at hp
    · rename_i i j hq
      obtain ⟨o, ho, he⟩ := Option.map_eq_some_iff.1 hp
      exact .inl ⟨i, j, o, hq, ho, he.symm⟩
    · split at hp
      · rename_i o j hq
        split at hp
        · cases hp
        · cases hp; exact .inr hq
      · exact .inr hp
  have hfr : Fr ro w g w' (g.back g1 ids) := by
    have hwr : ∀ b, ¬ Wr ro g b → ¬ Wr 0 (g.lend ids true) b := by
      intro b hb
      exact notWr b (fun i o hi ho => hb (.inl ⟨o, hro i o hi, ho⟩)) (fun o j _ he => hb (.inr ⟨_, he⟩))
    refine ⟨hf.os, hf.tape, hf.output, hf.size, fun b hb hn => hf.blk b hb (hwr b hn), hkeeps, fun b hb hn => hf.com b hb (hwr b hn), fun _ _ h => h, fun _ _ h => .inl h, fun b p hp => ?_⟩
    rcases backCases b p hp with ⟨i, j, o, hq, _, _⟩ | hq
    · rcases hf.own b _ hq with h1 | h1
      · exact .inl h1
      · by_cases hc : Wr ro g b
        · exact .inr hc
        · exact absurd h1 (hwr b hc)
    · exact .inr (.inr ⟨p, hq⟩)
  refine h.step (objs := backObjs ids objs' st.objs) hfr ⟨fun o ho => h.wf.dom o (by rw [← b1]; exact ho), fun o ob hob => ?_, h.wf.inj, hwf.fresh, fun o b hb => ?_, fun b p hp => ?_, fun o b p hb hp => ?_⟩ (fun t _ => hold _ (by simp))
  · by_cases hc : ids.contains o = true
    · have hm : o ∈ ids := by simpa using hc
      have hi := List.idxOf_lt_length_of_mem hm
      have hio : ids[ids.idxOf o]? = some o := by rw [List.getElem?_eq_getElem hi, List.getElem_idxOf hi]
      rw [b2 _ o hio] at hob
      obtain ⟨b, hb, hr⟩ := h.wf.rep o (st.objs.getD o (.cells [])) (by simp [List.getD, (hall _ o hio).1])
      obtain ⟨b', hb', hr'⟩ := hwf.rep _ ob hob
      have : g1.obj (ids.idxOf o) = some b := hf.obj _ b (by show (ids[ids.idxOf o]?).bind g.obj = some b; rw [hio]; exact hb)
      rw [this] at hb'; cases hb'
      refine ⟨b, hb, ?_⟩
      have hfl := hflat _ ob hob
      cases ob with
      | iter s pos => exact hfl.elim
      | cells c =>
        obtain ⟨cs, e, h1, h2, h3⟩ := hr'
        refine ⟨cs, e, h1, h2, fun j v y hv hy => ?_⟩
        obtain ⟨r1, r2⟩ := h3 j v y hv hy
        rcases hfl y (List.mem_of_getElem? hy) with ⟨p, rfl⟩ | ⟨sz, xs, rfl⟩
        · exact ⟨.pv _ _ r1.pv_inv, notOwn (by simp)⟩
        · refine ⟨.own _ _ _ r1.own_inv, fun sz' xs' he => ?_⟩
          cases he
          obtain ⟨A, n, c', rfl, hc' | ⟨b', cs', e', hA, hown, hrest⟩⟩ := r2 sz xs rfl
          · exact ⟨A, n, c', rfl, .inl hc'⟩
          · refine ⟨A, n, c', rfl, .inr ⟨b', cs', e', hA, ?_, hrest⟩⟩
            show (match g1.own b' with
              | some (i + 1, j) => (ids[i]?).map fun o => (o + 1, j)
              | _ => _) = _
            rw [hown]
            simp only [hio, Option.map_some]
    · have hc : ids.contains o = false := by simpa using hc
      rw [b3 o hc] at hob
      obtain ⟨b, hb, hr⟩ := h.wf.rep o ob hob
      have hw := objNot o b hb hc
      exact ⟨b, hb, hr.step (g' := g.back g1 ids) hkeeps (fun _ _ h => h) (hf.blk b (h.wf.block_lt hb) hw) (fun j => hold _ (by intro o' ho'; simp at ho'; subst ho'; exact hc))⟩
  · by_cases hc : ids.contains o = true
    · exact hwf.comobj _ b (hf.obj _ b (lend_obj hc hb))
    · have hc : ids.contains o = false := by simpa using hc
      show g1.com b = 0
      rw [hf.com b (h.wf.block_lt hb) (objNot o b hb hc)]
      exact h.wf.comobj o b hb
  · rcases backCases b p hp with ⟨i, j, o, hq, _, _⟩ | hq
    · exact hwf.ownlt b _ hq
    · exact Nat.lt_of_lt_of_le (h.wf.ownlt b p hq) hf.size
  · rcases backCases b p hp with ⟨i, j, o', hq, _, _⟩ | hq
    · by_cases hc : ids.contains o = true
      · exact hwf.ownobj _ b _ (hf.obj _ b (lend_obj hc hb)) hq
      · have hc : ids.contains o = false := by simpa using hc
        rw [ownNone b (h.wf.block_lt hb) (objNot o b hb hc)] at hq
        cases hq
    · exact h.wf.ownobj o b p hb hq

theorem upon_enter {f : FuncId} {vs : Array Value} {N : Act → World → Prop} {Q : Exit → Act → World → Prop} {R : Ending → World → Prop} (hr : (execOp a.eval o).run P w = .ok (.enter f vs) w)
    (hc : Calls P f vs w R) (hR : ∀ e w', R e w' → ∃ v, e = .returned v ∧ N (a.put o.dst v) w') : o.wp P a w N Q := by
  unfold Oper.wp
  rw [hr]
  refine hc.mono (fun e w' he => ?_)
  obtain ⟨v, rfl, hN⟩ := hR e w' he
  exact hN

theorem snd_call {c : Call} {f : Operand} {af : AO} {as : List AO} {r : CR} (hst : ∀ w w' : World, Gl w → (∀ b, b < B0 → w'.heap[b]? = w.heap[b]?) → Gl w') (hC : SoundC P Gl B0 C) (hop : o.op = .call c) (hcf : c.callee = .value f)
    (hf : trO' P f = some af) (has : trArgs P c.args.toList c.argTypes.toList = some as) (he : evOp C ro (.call af as r) st K = some x) (hs : RS ro w0 g0 a w st g) (hlow : Low B0 w0 g0) (hgl : Gl w0) :
    Sound1 P ro w0 g0 o a w K x := by
  intro N Q hN
  have rf := trO_rep hf hs.env
  obtain ⟨hl, hargs⟩ := trArgs_rep has hs.env
  have hlow' := hlow.fr hs.fr
  have hgl' := gl_fr hst hlow hs.fr hgl
  simp only [evOp] at he
  split at he
  case h_2 => cases he
  rename_i fid fa fc hp
  rw [hp] at rf
  obtain ⟨fs, cs, hv, z1, z2, z3, z4⟩ := rf.fn_inv
  -- the values that are handed over
  have hvs : ArgsRep w g (fs.toList ++ (c.args.map a.eval).toList ++ cs.toList) ((fa ++ as.map st.get ++ fc).map AV.shut) := by
    refine argsRep_view (by simp [z1, z2]; simpa using hl) (rep_append (by simp [z1]; simpa using hl) (rep_append (by simpa using z1) (fun i v x hv hx => z3 i v x (by simpa using hv) hx) (fun i v x hv hx => ?_)) (fun i v x hv hx => z4 i v x (by simpa using hv) hx))
    simp only [Array.toList_map, List.getElem?_map] at hv hx
    obtain ⟨y, hy, rfl⟩ := Option.map_eq_some_iff.1 hv
    obtain ⟨z, hz, rfl⟩ := Option.map_eq_some_iff.1 hx
    exact hargs i y z hy hz
  have hent : Enters P fid → (execOp a.eval o).run P w = .ok (.enter fid (fs.toList ++ (c.args.map a.eval).toList ++ cs.toList).toArray) w := by
    rintro ⟨fn, h1, h2, h3⟩
    have h6 : fn.body ≠ none := by intro hb; rw [hb] at h2; cases h2
    have e1 : (fs.toList ++ (c.args.map a.eval).toList ++ cs.toList).toArray = fs ++ c.args.map a.eval ++ cs := by
      apply Array.ext'; simp
    rw [e1]
    simp [execOp, hop, resolve, hcf, hv, Deferred.ofValue, invoke, callFunc, h1, h3, h6]
  rw [doCall_eq] at he
  unfold doCallM at he
  obtain ⟨hok, he⟩ := cond_some_none he
  obtain ⟨hn, hin, hall⟩ := okIds_spec hok
  cases r with
  | read vt =>
    simp only at he
    obtain ⟨p, hp, he⟩ := Option.bind_eq_some_iff.1 he
    have he := asV_inv he
    have hcall := hC.R _ _ _ _ hp w (g.lend (lendIds st.objs ((fa ++ as.map st.get ++ fc).map AV.shut)) false) _ hgl'
      ⟨hlow'.base, fun i b hb => by
        have hb : (_[i]?).bind g.obj = some b := hb
        obtain ⟨o', _, hb⟩ := Option.bind_eq_some_iff.1 hb
        exact hlow'.obj o' b hb, fun b p hp => by obtain ⟨h1, _⟩ := lend_own hp; cases h1⟩
      (hvs.ren hin) (hs.wf.lend hok viewO (fun i o' b ob hi hob hb hr => repObj_view (by
        have := (hall i o' hi).2
        rw [show st.objs.getD o' (.cells []) = ob from by simp [List.getD, hob]] at this
        exact this) hr)) (fun b => rfl)
    refine upon_enter (hent (hC.entR _ _ _ _ hp)) hcall (fun e w' h => ?_)
    obtain ⟨v, com', rfl, hrep, hq⟩ := h
    obtain ⟨hrs, hk⟩ := hs.quiet hq
    exact ⟨v, rfl, hN _ _ v w' _ he hrs (.pv _ _ hrep) (fun k _ => notOwn (by simp))⟩
  | write vt shapes =>
    simp only at he
    obtain ⟨hcnd, he⟩ := cond_some_none he
    simp only [Bool.and_eq_true] at hcnd
    obtain ⟨r, hr, he⟩ := Option.bind_eq_some_iff.1 he
    obtain ⟨rv, objs'⟩ := r
    simp only at he
    obtain ⟨p, rfl⟩ : ∃ p, rv = .pv p := by
      cases rv with
      | pv p => exact ⟨p, rfl⟩
      | _ => cases he
    have he2 := asV_inv he
    clear he
    obtain ⟨os, he, hol, hos⟩ := asObjs_inv he2
    clear he2
    have hsl := Nat.eq_of_beq_eq_true hcnd.2
    have hcall := hC.M _ _ _ _ _ hr w (g.lend (lendIds st.objs ((fa ++ as.map st.get ++ fc).map AV.shut)) true) _ hgl'
      ⟨hlow'.base, fun i b hb => by
        have hb : (_[i]?).bind g.obj = some b := hb
        obtain ⟨o', _, hb⟩ := Option.bind_eq_some_iff.1 hb
        exact hlow'.obj o' b hb, fun b p hp => by obtain ⟨_, o', j, h1, _⟩ := lend_own hp; exact hlow'.own b _ h1⟩
      (hvs.ren hin) (by
        have := hs.wf.lend (ow := true) hok id (fun i o' b ob hi hob hb hr => repObj_own hn hi (by
          have := (hall i o' hi).2
          rw [show st.objs.getD o' (.cells []) = ob from by simp [List.getD, hob]] at this
          exact this) hr)
        rwa [List.map_id] at this)
    refine upon_enter (hent (hC.entM _ _ _ _ hr)) hcall (fun e w' h => ?_)
    obtain ⟨v, g1, rfl, hrep, hwf, hfr, hlen⟩ := h
    have hlen : (lendIds st.objs ((fa ++ as.map st.get ++ fc).map AV.shut)).length ≤ objs'.length := by simpa [lend] using hlen
    have hoeq : os = objs'.take (lendIds st.objs ((fa ++ as.map st.get ++ fc).map AV.shut)).length := by
      apply List.ext_getElem?
      intro i
      by_cases hi : i < shapes.length
      · rw [(hos i hi).1, Nat.zero_add, List.getElem?_take, if_pos (by omega), List.getD_eq_getElem?_getD, List.getElem?_eq_getElem (by omega)]; rfl
      · rw [List.getElem?_eq_none (by omega), List.getElem?_take, if_neg (by omega)]
    have hfl : ∀ (i : Nat) (ob : AObj), os[i]? = some ob → flatO ob := by
      intro i ob hob
      have hi : i < shapes.length := by have := (List.getElem?_eq_some_iff.1 hob).1; omega
      have h1 := hos i hi
      rw [Nat.zero_add] at h1
      rw [h1.1] at hob; cases hob
      exact h1.2
    have hwf' := hwf.cut (m := (lendIds st.objs ((fa ++ as.map st.get ++ fc).map AV.shut)).length) (by
      rw [← hoeq, List.all_eq_true]
      intro ob hob
      obtain ⟨i, hi, rfl⟩ := List.getElem_of_mem hob
      exact flat_below (hfl i _ (List.getElem?_eq_getElem hi)))
    rw [← hoeq] at hwf'
    have hfr' := hfr.cut (m := (lendIds st.objs ((fa ++ as.map st.get ++ fc).map AV.shut)).length) (by
      intro o b hb
      have hb : (_[o]?).bind g.obj = some b := hb
      obtain ⟨o', ho', _⟩ := Option.bind_eq_some_iff.1 hb
      exact (List.getElem?_eq_some_iff.1 ho').1)
    have hback := hs.back hok (fun i o' hi => Nat.le_of_ble_eq_true (List.all_eq_true.1 hcnd.1 o' (List.mem_of_getElem? hi))) hwf' hfr' (by omega) hfl
    exact ⟨v, rfl, hN _ _ v w' _ he hback (.pv _ _ hrep.pv_inv) (fun k _ => notOwn (by simp))⟩
  | wide =>
    simp only at he
    obtain ⟨hcnd, he⟩ := cond_some_none he
    obtain ⟨r, hr, he⟩ := Option.bind_eq_some_iff.1 he
    obtain ⟨rv, objs'⟩ := r
    simp only at he
    have hcall := hC.M _ _ _ _ _ hr w (g.lend (lendIds st.objs ((fa ++ as.map st.get ++ fc).map AV.shut)) true) _ hgl'
      ⟨hlow'.base, fun i b hb => by
        have hb : (_[i]?).bind g.obj = some b := hb
        obtain ⟨o', _, hb⟩ := Option.bind_eq_some_iff.1 hb
        exact hlow'.obj o' b hb, fun b p hp => by obtain ⟨_, o', j, h1, _⟩ := lend_own hp; exact hlow'.own b _ h1⟩
      (hvs.ren hin) (by
        have := hs.wf.lend (ow := true) hok id (fun i o' b ob hi hob hb hr => repObj_own hn hi (by
          have := (hall i o' hi).2
          rw [show st.objs.getD o' (.cells []) = ob from by simp [List.getD, hob]] at this
          exact this) hr)
        rwa [List.map_id] at this)
    refine upon_enter (hent (hC.entM _ _ _ _ hr)) hcall (fun e w' h => ?_)
    obtain ⟨v, g1, rfl, hrep, hwf, hfr, hlen⟩ := h
    have hlen : (lendIds st.objs ((fa ++ as.map st.get ++ fc).map AV.shut)).length ≤ objs'.length := by simpa [lend] using hlen
    have hback := hs.backW hok (fun i o' hi => Nat.le_of_ble_eq_true (List.all_eq_true.1 hcnd o' (List.mem_of_getElem? hi))) hwf hfr hlen
    exact ⟨v, rfl, hN _ _ v w' _ he hback (out_rep (backW_obj hs hok hfr) rfl hrep).view (fun k _ => notOwn (view_ne _))⟩
end
end Go.Cx
