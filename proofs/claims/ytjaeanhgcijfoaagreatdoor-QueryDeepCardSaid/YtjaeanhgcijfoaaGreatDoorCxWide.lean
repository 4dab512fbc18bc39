/- Calls that hand back new objects. -/
import Derived.Test.YtjaeanhgcijfoaaGreatDoorCxCut
set_option linter.unusedSimpArgs false
set_option linter.unusedVariables false
namespace Go.Cx
open Go.RowKit

/-- The caller's ghost, when what was lent has come back, and new objects with it. -/
def G.backW (g g1 : G) (ids : List Nat) (L : Nat) : G where
  com := g1.com
  obj := fun o => if o < L then g.obj o else g1.obj (ids.length + (o - L))
  own := fun b => match g1.own b with
    | some (i + 1, j) => some (outI ids L i + 1, j)
    | _ => match g.own b with
      | some (o + 1, j) => if ids.contains o then none else some (o + 1, j)
      | q => q

section
variable {ro : Nat} {w0 w w' : World} {g0 g g' g1 : G} {a : Act} {st : St} {objs objs' : List AObj} {ids : List Nat} {L : Nat}

theorem outI_lt {i : Nat} (h : i < ids.length) : outI ids L i = ids.getD i 0 := by
  unfold outI
  have : Nat.blt i ids.length = true := by simp only [Nat.blt]; exact Nat.ble_eq_true_of_le h
  rw [this]; rfl
theorem outI_ge {i : Nat} (h : ids.length ≤ i) : outI ids L i = L + (i - ids.length) := by
  unfold outI
  have : Nat.blt i ids.length = false := by
    cases hb : Nat.blt i ids.length with
    | false => rfl
    | true => simp only [Nat.blt] at hb; have := Nat.le_of_ble_eq_true hb; omega
  rw [this]; rfl

theorem outL_get : ∀ {l : List AV} {j : Nat} {y : AV}, (outL ids L l)[j]? = some y → ∃ x, l[j]? = some x ∧ y = outA ids L x
  | [], j, y, h => by simp [outL] at h
  | x :: r, j, y, h => by
    simp only [outL] at h
    cases j with
    | zero => simp at h; exact ⟨x, rfl, h.symm⟩
    | succ j => simp at h; obtain ⟨x', hx, hy⟩ := outL_get (l := r) h; exact ⟨x', by simpa using hx, hy⟩
theorem outL_length : ∀ (l : List AV), (outL ids L l).length = l.length
  | [] => rfl
  | x :: r => by simp [outL, outL_length r]

theorem out_rep (hP : ∀ i b, g1.obj i = some b → g'.obj (outI ids L i) = some b) (hc : g'.com = g1.com) {v : Value} {x : AV} (h : RepA w' g1 v x) : RepA w' g' v (outA ids L x) := by
  have hcm : ∀ {v p}, RepP w' g1.com v p → RepP w' g'.com v p := fun h => by rw [hc]; exact h
  induction h with
  | any v => simp only [outA]; exact .any v
  | pv v p h => simp only [outA]; exact .pv v p (hcm h)
  | own v sz xs h => simp only [outA]; exact .own v sz xs (hcm h)
  | nil sz => simp only [outA]; exact .nil sz
  | ptr o off b h => simp only [outA]; exact .ptr _ off b (hP o b h)
  | rp b off c val h1 h2 h3 => simp only [outA]; exact .rp b off c val (fun h => by rw [hc]; exact h1 h) h2 (fun j p hp => hcm (h3 j p hp))
  | fn f fs cs as bs hf hc' ha hb iha ihb =>
    simp only [outA]
    refine .fn f fs cs _ _ (by rw [outL_length]; exact hf) (by rw [outL_length]; exact hc') (fun j v y hv hy => ?_) (fun j v y hv hy => ?_)
    · obtain ⟨x, hx, rfl⟩ := outL_get hy; exact iha j v x hv hx
    · obtain ⟨x, hx, rfl⟩ := outL_get hy; exact ihb j v x hv hx
  | agg cs as hs hr ih =>
    simp only [outA]
    exact .agg cs _ (by rw [outL_length]; exact hs) (fun j v y hv hy => by obtain ⟨x, hx, rfl⟩ := outL_get hy; exact ih j v x hv hx)
  | tup cs as hs hr ih =>
    simp only [outA]
    exact .tup cs _ (by rw [outL_length]; exact hs) (fun j v y hv hy => by obtain ⟨x, hx, rfl⟩ := outL_get hy; exact ih j v x hv hx)

theorem out_own {i j : Nat} (ho : ∀ b i j, g1.own b = some (i + 1, j) → g'.own b = some (outI ids L i + 1, j)) (hc : g'.com = g1.com) {v : Value} {x : AV} (h : OwnAt w' g1 (i + 1, j) v x) : OwnAt w' g' (outI ids L i + 1, j) v (outA ids L x) := by
  intro sz xs he
  have hx : x = .own sz xs := by cases x <;> simp only [outA] at he <;> first | exact he | cases he
  obtain ⟨A, n, c, rfl, hc' | ⟨b, cs, e, hA, hown, hcom, hr⟩⟩ := h sz xs hx
  · exact ⟨A, n, c, rfl, .inl hc'⟩
  · exact ⟨A, n, c, rfl, .inr ⟨b, cs, e, hA, ho b i j hown, by rw [hc]; exact hcom, hr⟩⟩

theorem out_obj (hP : ∀ i b, g1.obj i = some b → g'.obj (outI ids L i) = some b) (ho : ∀ b i j, g1.own b = some (i + 1, j) → g'.own b = some (outI ids L i + 1, j)) (hc : g'.com = g1.com) {i b : Nat} {ob : AObj}
    (h : RepObj w' g1 i b ob) : RepObj w' g' (outI ids L i) b (outO ids L ob) := by
  cases ob with
  | iter s pos => exact h
  | cells c =>
    obtain ⟨cs, e, h1, h2, h3⟩ := h
    refine ⟨cs, e, h1, by rw [outL_length]; exact h2, fun j v y hv hy => ?_⟩
    obtain ⟨x, hx, rfl⟩ := outL_get hy
    exact ⟨out_rep hP hc (h3 j v x hv hx).1, out_own ho hc (h3 j v x hv hx).2⟩

theorem backW_obj (h : RS ro w0 g0 a w st g) {args : List AV} (hk : okIds st.objs args ids = true) (hf : Fr 0 w (g.lend ids true) w' g1) :
    ∀ i b, g1.obj i = some b → (g.backW g1 ids st.objs.length).obj (outI ids st.objs.length i) = some b := by
  obtain ⟨hn, hin, hall⟩ := okIds_spec hk
  intro i b hb
  by_cases hi : i < ids.length
  · rw [outI_lt hi]
    have hio : ids[i]? = some (ids.getD i 0) := by simp [List.getD, hi]
    have hlt := (hall i _ hio).1
    show (if ids.getD i 0 < st.objs.length then g.obj (ids.getD i 0) else _) = some b
    rw [if_pos hlt]
    obtain ⟨b', hb', _⟩ := h.wf.rep (ids.getD i 0) st.objs[ids.getD i 0] (by simp)
    have := hf.obj i b' (by show (ids[i]?).bind g.obj = some b'; rw [hio]; exact hb')
    rw [hb] at this; cases this
    exact hb'
  · have hi : ids.length ≤ i := by omega
    rw [outI_ge hi]
    show (if st.objs.length + (i - ids.length) < st.objs.length then _ else g1.obj (ids.length + (st.objs.length + (i - ids.length) - st.objs.length))) = some b
    rw [if_neg (by omega)]
    rw [show ids.length + (st.objs.length + (i - ids.length) - st.objs.length) = i from by omega]
    exact hb

theorem backW_own : ∀ b i j, g1.own b = some (i + 1, j) → (g.backW g1 ids L).own b = some (outI ids L i + 1, j) := by
  intro b i j h
  show (match g1.own b with
    | some (i + 1, j) => some (outI ids L i + 1, j)
    | _ => match g.own b with
      | some (o + 1, j) => if ids.contains o then none else some (o + 1, j)
      | q => q) = _
  rw [h]

theorem backObjs_get : ∀ {ids : List Nat} {obs objs : List AObj}, nodupB ids = true → obs.length = ids.length → (∀ (i o : Nat), ids[i]? = some o → o < objs.length) →
    (backObjs ids obs objs).length = objs.length ∧ (∀ (i o : Nat), ids[i]? = some o → (backObjs ids obs objs)[o]? = obs[i]?) ∧ (∀ o, ids.contains o = false → (backObjs ids obs objs)[o]? = objs[o]?)
  | [], obs, objs, _, hl, _ => by cases obs <;> simp [backObjs]
  | o :: ids, [], objs, _, hl, _ => by simp at hl
  | o :: ids, ob :: obs, objs, hn, hl, hlt => by
    simp only [nodupB, Bool.and_eq_true, Bool.not_eq_true'] at hn
    obtain ⟨h1, h2, h3⟩ := backObjs_get (ids := ids) (obs := obs) (objs := objs.set o ob) hn.2 (by simpa using hl) (fun i o' h => by simpa using hlt (i + 1) o' (by simpa using h))
    have ho : o < objs.length := hlt 0 o rfl
    refine ⟨by simpa [backObjs] using h1, fun i o' hi => ?_, fun o' ho' => ?_⟩
    · cases i with
      | zero =>
        simp at hi; subst hi
        simp only [backObjs]
        rw [h3 o hn.1]
        simp [ho]
      | succ i => simp only [backObjs]; rw [h2 i o' (by simpa using hi)]; rfl
    · simp only [List.contains_cons, Bool.or_eq_false_iff] at ho'
      simp only [backObjs]
      rw [h3 o' ho'.2, List.getElem?_set_ne]
      intro he; subst he; simp at ho'


theorem RS.backW {args : List AV} (h : RS ro w0 g0 a w st g) (hk : okIds st.objs args ids = true) (hro : ∀ (i o : Nat), ids[i]? = some o → ro ≤ o)
    (hwf : WF w' g1 objs') (hf : Fr 0 w (g.lend ids true) w' g1) (hlen : ids.length ≤ objs'.length) :
    RS ro w0 g0 a w' { st with objs := backObjs ids ((objs'.take ids.length).map (outO ids st.objs.length)) st.objs ++ (objs'.drop ids.length).map (outO ids st.objs.length) } (g.backW g1 ids st.objs.length) := by
  have hP := backW_obj h hk hf
  have hO : ∀ b i j, g1.own b = some (i + 1, j) → (g.backW g1 ids st.objs.length).own b = some (outI ids st.objs.length i + 1, j) := backW_own
  obtain ⟨hn, hin, hall⟩ := okIds_spec hk
  obtain ⟨b1, b2, b3⟩ := backObjs_get (obs := (objs'.take ids.length).map (outO ids st.objs.length)) (objs := st.objs) hn (by simp; omega) (fun i o hi => (hall i o hi).1)
  have notWr : ∀ (b : Nat), (∀ (i o : Nat), ids[i]? = some o → g.obj o ≠ some b) → (∀ (o j : Nat), ids.contains o = true → g.own b ≠ some (o + 1, j)) → ¬ Wr 0 (g.lend ids true) b := by
    intro b h1 h2
    rintro (⟨i, _, hi⟩ | ⟨p, hp⟩)
    · have hi : (ids[i]?).bind g.obj = some b := hi
      cases hx : ids[i]? with
      | none => rw [hx] at hi; cases hi
      | some o => rw [hx] at hi; exact h1 i o hx hi
    · obtain ⟨_, o, j, k1, k2, _⟩ := lend_own hp
      exact h2 o j k2 k1
  have ownNone : ∀ b, b < w.heap.size → ¬ Wr 0 (g.lend ids true) b → g1.own b = none := by
    intro b hb hw
    cases hq : g1.own b with
    | none => rfl
    | some p =>
      rcases hf.own b p hq with h1 | h1
      · omega
      · exact absurd h1 hw
  have ownKept : ∀ (b : Nat), g1.own b = none → (∀ (o j : Nat), ids.contains o = true → g.own b ≠ some (o + 1, j)) → (g.backW g1 ids st.objs.length).own b = g.own b := by
    intro b h1 h2
    show (match g1.own b with
      | some (i + 1, j) => some (outI ids st.objs.length i + 1, j)
      | _ => match g.own b with
        | some (o + 1, j) => if ids.contains o then none else some (o + 1, j)
        | q => q) = g.own b
    rw [h1]
    show (match g.own b with
        | some (o + 1, j) => if ids.contains o then none else some (o + 1, j)
        | q => q) = g.own b
    cases hq : g.own b with
    | none => rfl
    | some p =>
      obtain ⟨o, j⟩ := p
      cases o with
      | zero => rfl
      | succ o =>
        have hc : ids.contains o = false := by
          cases hc : ids.contains o with
          | false => rfl
          | true => exact absurd hq (h2 o j hc)
        simp only [hc, Bool.false_eq_true, if_false]
  have hold : ∀ p : Nat × Nat, (∀ o, p.1 = o + 1 → ids.contains o = false) → Hold w g w' (g.backW g1 ids st.objs.length) p := by
    intro p hp b hb
    have hlt := h.wf.ownlt b p hb
    have h2 : ∀ o j, ids.contains o = true → g.own b ≠ some (o + 1, j) := by
      intro o j hc he
      rw [hb] at he
      have := hp o (by cases he; rfl)
      rw [this] at hc; cases hc
    have hw := notWr b (fun i o hi ho => h.wf.ownobj o b p ho hb) h2
    exact ⟨(ownKept b (ownNone b hlt hw) h2).trans hb, hf.com b hlt hw, hf.blk b hlt hw⟩
  have hkeeps : Keeps w g.com w' (g.backW g1 ids st.objs.length).com := hf.keeps
  have objNot : ∀ o b, g.obj o = some b → ids.contains o = false → ¬ Wr 0 (g.lend ids true) b := by
    intro o b hb hc
    refine notWr b (fun i o' hi ho' => ?_) (fun o' j _ he => h.wf.ownobj o b _ hb he)
    have := h.wf.inj o o' b hb ho'
    subst this
    have : ids.contains o = true := by simpa using List.mem_of_getElem? hi
    rw [this] at hc; cases hc
  have backCases : ∀ b p, (g.backW g1 ids st.objs.length).own b = some p → (∃ i j, g1.own b = some (i + 1, j) ∧ p = (outI ids st.objs.length i + 1, j)) ∨ g.own b = some p := by
    intro b p hp
    have hp : (match g1.own b with
      | some (i + 1, j) => some (outI ids st.objs.length i + 1, j)
      | _ => match g.own b with
        | some (o + 1, j) => if ids.contains o then none else some (o + 1, j)
        | q => q) = some p := hp
    split at hp
    · rename_i i j hq
      exact .inl ⟨i, j, hq, (Option.some.inj hp).symm⟩
    · split at hp
      · rename_i o j hq
        split at hp
        · cases hp
        · cases hp; exact .inr hq
      · exact .inr hp
  have objCases : ∀ o b, (g.backW g1 ids st.objs.length).obj o = some b → (o < st.objs.length ∧ g.obj o = some b) ∨ (st.objs.length ≤ o ∧ g1.obj (ids.length + (o - st.objs.length)) = some b ∧ w.heap.size ≤ b) := by
    intro o b hb
    have hb : (if o < st.objs.length then g.obj o else g1.obj (ids.length + (o - st.objs.length))) = some b := hb
    split at hb
    · rename_i ho; exact .inl ⟨ho, hb⟩
    · rename_i ho
      refine .inr ⟨by omega, hb, ?_⟩
      rcases hf.objn _ b hb with h1 | h1
      · have h1 : (ids[ids.length + (o - st.objs.length)]?).bind g.obj = some b := h1
        rw [List.getElem?_eq_none (by omega)] at h1; cases h1
      · exact h1
  have hext : ObjExt g (g.backW g1 ids st.objs.length) := by
    intro o b hb
    have ho : o < st.objs.length := by
      rcases Nat.lt_or_ge o st.objs.length with h1 | h1
      · exact h1
      · rw [h.wf.dom o h1] at hb; cases hb
    show (if o < st.objs.length then g.obj o else _) = some b
    rw [if_pos ho]; exact hb
  have hfr : Fr ro w g w' (g.backW g1 ids st.objs.length) := by
    have hwr : ∀ b, ¬ Wr ro g b → ¬ Wr 0 (g.lend ids true) b := by
      intro b hb
      exact notWr b (fun i o hi ho => hb (.inl ⟨o, hro i o hi, ho⟩)) (fun o j _ he => hb (.inr ⟨_, he⟩))
    refine ⟨hf.os, hf.tape, hf.output, hf.size, fun b hb hn => hf.blk b hb (hwr b hn), hkeeps, fun b hb hn => hf.com b hb (hwr b hn), hext, fun o b ho => ?_, fun b p hp => ?_⟩
    · rcases objCases o b ho with ⟨_, h1⟩ | ⟨_, _, h1⟩
      · exact .inl h1
      · exact .inr h1
    · rcases backCases b p hp with ⟨i, j, hq, _⟩ | hq
      · rcases hf.own b _ hq with h1 | h1
        · exact .inl h1
        · by_cases hc : Wr ro g b
          · exact .inr hc
          · exact absurd h1 (hwr b hc)
      · exact .inr (.inr ⟨p, hq⟩)
  have hlen2 : (backObjs ids ((objs'.take ids.length).map (outO ids st.objs.length)) st.objs ++ (objs'.drop ids.length).map (outO ids st.objs.length)).length = st.objs.length + (objs'.length - ids.length) := by
    rw [List.length_append, b1, List.length_map, List.length_drop]
  refine h.step hfr ⟨fun o ho => ?_, fun o ob hob => ?_, fun o o' b h1 h2 => ?_, hwf.fresh, fun o b hb => ?_, fun b p hp => ?_, fun o b p hb hp => ?_⟩ (fun t _ => hold _ (by simp))
  · rw [hlen2] at ho
    show (if o < st.objs.length then g.obj o else g1.obj (ids.length + (o - st.objs.length))) = none
    rw [if_neg (by omega)]
    exact hwf.dom _ (by omega)
  · by_cases ho : o < st.objs.length
    · rw [List.getElem?_append_left (by rw [b1]; exact ho)] at hob
      by_cases hc : ids.contains o = true
      · have hm : o ∈ ids := by simpa using hc
        have hi := List.idxOf_lt_length_of_mem hm
        have hio : ids[ids.idxOf o]? = some o := by rw [List.getElem?_eq_getElem hi, List.getElem_idxOf hi]
        rw [b2 _ o hio, List.getElem?_map, List.getElem?_take, if_pos hi] at hob
        obtain ⟨ob', hob', rfl⟩ := Option.map_eq_some_iff.1 hob
        obtain ⟨b, hb, hr⟩ := hwf.rep _ ob' hob'
        have e1 : outI ids st.objs.length (ids.idxOf o) = o := by
          rw [outI_lt hi]; simp [List.getD, hio]
        have := out_obj hP hO rfl hr
        have hb2 := hP _ b hb
        rw [e1] at this hb2
        exact ⟨b, hb2, this⟩
      · have hc : ids.contains o = false := by simpa using hc
        rw [b3 o hc] at hob
        obtain ⟨b, hb, hr⟩ := h.wf.rep o ob hob
        have hw := objNot o b hb hc
        exact ⟨b, hext o b hb, hr.step hkeeps hext (hf.blk b (h.wf.block_lt hb) hw) (fun j => hold _ (by intro o' ho'; simp at ho'; subst ho'; exact hc))⟩
    · rw [List.getElem?_append_right (by rw [b1]; omega), b1, List.getElem?_map, List.getElem?_drop] at hob
      obtain ⟨ob', hob', rfl⟩ := Option.map_eq_some_iff.1 hob
      obtain ⟨b, hb, hr⟩ := hwf.rep _ ob' hob'
      have e1 : outI ids st.objs.length (ids.length + (o - st.objs.length)) = o := by
        rw [outI_ge (by omega)]; omega
      have := out_obj hP hO rfl hr
      have hb2 := hP _ b hb
      rw [e1] at this hb2
      exact ⟨b, hb2, this⟩
  · rcases objCases o b h1 with ⟨k1, k2⟩ | ⟨k1, k2, k3⟩ <;> rcases objCases o' b h2 with ⟨m1, m2⟩ | ⟨m1, m2, m3⟩
    · exact h.wf.inj o o' b k2 m2
    · have := h.wf.block_lt k2; omega
    · have := h.wf.block_lt m2; omega
    · have := hwf.inj _ _ b k2 m2; omega
  · rcases objCases o b hb with ⟨k1, k2⟩ | ⟨k1, k2, k3⟩
    · by_cases hc : ids.contains o = true
      · exact hwf.comobj _ b (hf.obj _ b (lend_obj hc k2))
      · have hc : ids.contains o = false := by simpa using hc
        show g1.com b = 0
        rw [hf.com b (h.wf.block_lt k2) (objNot o b k2 hc)]
        exact h.wf.comobj o b k2
    · exact hwf.comobj _ b k2
  · rcases backCases b p hp with ⟨i, j, hq, _⟩ | hq
    · exact hwf.ownlt b _ hq
    · exact Nat.lt_of_lt_of_le (h.wf.ownlt b p hq) hf.size
  · rcases objCases o b hb with ⟨k1, k2⟩ | ⟨k1, k2, k3⟩
    · rcases backCases b p hp with ⟨i, j, hq, _⟩ | hq
      · by_cases hc : ids.contains o = true
        · exact hwf.ownobj _ b _ (hf.obj _ b (lend_obj hc k2)) hq
        · have hc : ids.contains o = false := by simpa using hc
          rw [ownNone b (h.wf.block_lt k2) (objNot o b k2 hc)] at hq
          cases hq
      · exact h.wf.ownobj o b p k2 hq
    · rcases backCases b p hp with ⟨i, j, hq, _⟩ | hq
      · exact hwf.ownobj _ b _ k2 hq
      · have := h.wf.ownlt b p hq; omega

end
end Go.Cx
