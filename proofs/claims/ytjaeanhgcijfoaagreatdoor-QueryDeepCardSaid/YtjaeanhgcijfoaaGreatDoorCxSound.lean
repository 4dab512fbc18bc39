/- Guards, and regions in the text's order. -/
import Derived.Test.YtjaeanhgcijfoaaGreatDoorCxMain
import Derived.LoopN
set_option linter.unusedSimpArgs false
set_option linter.unusedVariables false
namespace Go.Cx
open Go.RowKit

section
variable {β : Type} {P : Program} {cr : Option FuncId → Option CR} {Gl : World → Prop} {B0 ro : Nat} {w0 w w' : World} {g0 g g' : G} {o : Oper} {a : Act} {st : St} {x : β} {C : Caller} {arr : Array Oper}

/-- What is asked of everything that is evaluated in a state. -/
structure Ctx (P : Program) (Gl : World → Prop) (B0 : Nat) (C : Caller) (w0 : World) (g0 : G) : Prop where
  st : ∀ w w' : World, Gl w → (∀ b, b < B0 → w'.heap[b]? = w.heap[b]?) → Gl w'
  C : SoundC P Gl B0 C
  low : Low B0 w0 g0
  gl : Gl w0

/-- One number of a region, wanted or not. -/
def wpOne (P : Program) (arr : Array Oper) (o : Oper) (a : Act) (w : World) (N : Act → World → Prop) (Q : Exit → Act → World → Prop) : Prop :=
  if Region.wanted o (yielded arr a.tmps) = true then o.wp P a w N Q ∨ (o.asks P a w ∧ LetsOut Q) else N (a.put o.dst undef) w

theorem rUndef : RepA w g undef (.pv (.tup [])) := .pv _ _ (.tup #[] [] rfl (fun j v p hv => by simp at hv))

theorem RS.skipped (hs : RS ro w0 g0 a w st g) (d : Option Nat) : RS ro w0 g0 (a.put d undef) w (st.put d (.pv (.tup []))) g :=
  hs.put d rUndef (fun k _ sz xs h => by cases h)

theorem RS.setBool (hs : RS ro w0 g0 a w st g) {j : Nat} {b : Bool} (hj : st.env.getD j .any = .pv (.bool b)) : { st with env := st.env.set j (.pv (.bool b)) } = st := by
  have : st.env.set j (.pv (.bool b)) = st.env := by
    apply List.ext_getElem?
    intro i
    rw [List.getElem?_set]
    split
    · rename_i h; subst h
      split
      · rename_i h
        have : st.env.getD j .any = st.env[j] := by simp [List.getD, h]
        rw [← hj, this]; simp [h]
      · rename_i h; simp at h; simp [h]
    · rfl
  rw [this]

theorem yielded_bool (hs : RS ro w0 g0 a w st g) {j d : Nat} {b : Bool} (hd : (arr[j]?).bind (·.dst) = some d) (hj : st.env.getD d .any = .pv (.bool b)) : yielded arr a.tmps j = some b := by
  have hr := (hs.env.get d).1
  rw [hj] at hr
  have hv := hr.bool_inv
  have hlt : d < a.tmps.size := by
    rcases Nat.lt_or_ge d a.tmps.size with h | h
    · exact h
    · have : st.env.getD d .any = .any := by simp [List.getD, List.getElem?_eq_none (by rw [← hs.env.1]; exact h)]
      rw [this] at hj; cases hj
  have : a.tmps[d]? = some (.bool b) := by
    rw [← hv]; simp [Array.getD, hlt]
  simp [yielded, hd, this]

theorem yielded_tup (hs : RS ro w0 g0 a w st g) {j d : Nat} {c : List PV} (hd : (arr[j]?).bind (·.dst) = some d) (hj : st.env.getD d .any = .pv (.tup c)) : yielded arr a.tmps j = none := by
  have hr := (hs.env.get d).1
  rw [hj] at hr
  generalize hv : a.tmps.getD d undef = v at hr
  cases hr with
  | pv _ _ hr =>
    cases hr with
    | tup cs _ _ _ =>
      have hlt : d < a.tmps.size := by
        rcases Nat.lt_or_ge d a.tmps.size with h | h
        · exact h
        · have : st.env.getD d .any = .any := by simp [List.getD, List.getElem?_eq_none (by rw [← hs.env.1]; exact h)]
          rw [this] at hj; cases hj
      have : a.tmps[d]? = some (.tuple cs) := by
        rw [← hv]; simp [Array.getD, hlt]
      simp [yielded, hd, this]

theorem snd_in {ai : AIn} {K : St → Option β} (cx : Ctx P Gl B0 C w0 g0) (htr : trIn P cr arr.toList o = some ai) (he : evIn C ro ai st K = some x) (hs : RS ro w0 g0 a w st g)
    (N : Act → World → Prop) (Q : Exit → Act → World → Prop) (hN : ∀ st' a' w' g', K st' = some x → RS ro w0 g0 a' w' st' g' → N a' w') : wpOne P arr o a w N Q := by
  unfold trIn at htr
  generalize hao' : (trOp P cr arr.toList o).getD .stuck = ao at htr
  simp only at htr
  have hgo : ∀ dst, dst = o.dst → evOp C ro ao st (fun st v => K (st.put dst v)) = some x → o.wp P a w N Q := by
    intro dst hd he
    subst hd
    have hao : trOp P cr arr.toList o = some ao := by
      cases h : trOp P cr arr.toList o with
      | none => rw [h] at hao'; simp at hao'; subst hao'; simp [evOp] at he
      | some b => rw [h] at hao'; simp at hao'; rw [hao']
    refine snd_op cx.st cx.C hao he hs cx.low cx.gl N Q (fun st' y v w' g' hk hr hy ho => hN _ _ _ _ hk (hr.put o.dst hy ho))
  unfold wpOne
  split at htr
  · rename_i hg
    cases htr
    have hw : Region.wanted o (yielded arr a.tmps) = true := by simp [Region.wanted, hg]
    rw [if_pos hw]
    exact .inl (hgo _ rfl he)
  · rename_i j want hg
    split at htr
    case h_2 => cases htr
    rename_i d hd
    cases htr
    have hd' : (arr[j]?).bind (·.dst) = some d := by simpa using hd
    simp only [evIn] at he
    split at he
    · rename_i b hb
      have hy := yielded_bool (arr := arr) hs hd' hb
      have hw : Region.wanted o (yielded arr a.tmps) = (b == want) := by simp [Region.wanted, hg, hy]
      rw [hw]
      cases b with
      | true =>
        simp only [cond] at he
        rw [hs.setBool hb] at he
        cases want with
        | true => exact .inl (hgo _ rfl he)
        | false => exact hN _ _ _ _ he (hs.skipped _)
      | false =>
        simp only [cond] at he
        rw [hs.setBool hb] at he
        cases want with
        | true => exact hN _ _ _ _ he (hs.skipped _)
        | false => exact .inl (hgo _ rfl he)
    · rename_i c hc
      have hy := yielded_tup (arr := arr) hs hd' hc
      have hw : Region.wanted o (yielded arr a.tmps) = false := by simp [Region.wanted, hg, hy]
      rw [hw]
      exact hN _ _ _ _ he (hs.skipped _)
    · cases he

theorem snd_ins (cx : Ctx P Gl B0 C w0 g0) {K : St → Option β} {Q : Exit → Act → World → Prop} (hK : ∀ st' a' w' g', K st' = some x → RS ro w0 g0 a' w' st' g' → Q .normal a' w') :
    ∀ (n k : Nat) (ais : List AIn) (a : Act) (w : World) (st : St) (g : G), k + n = arr.size → trIns P cr arr.toList (arr.toList.drop k) = some ais → evIns C ro ais st K = some x → RS ro w0 g0 a w st g →
      wpOps P arr Q (List.range' k n) a w
  | 0, k, ais, a, w, st, g, hk, htr, he, hs => by
    rw [List.drop_eq_nil_of_le (by simp; omega)] at htr
    simp [trIns] at htr
    subst htr
    simp only [evIns] at he
    simp only [List.range', wpOps]
    exact hK _ _ _ _ he hs
  | n + 1, k, ais, a, w, st, g, hk, htr, he, hs => by
    have hlt : k < arr.size := by omega
    rw [List.drop_eq_getElem_cons (by simpa using hlt)] at htr
    simp only [trIns] at htr
    split at htr
    case h_2 => cases htr
    rename_i ai r h1 h2
    cases htr
    simp only [evIns] at he
    have ho : arr[k]? = some arr[k] := by simp [hlt]
    simp only [List.range', wpOps, ho]
    exact snd_in cx (o := arr[k]) (by simpa using h1) he hs _ Q (fun st' a' w' g' hk' hr => snd_ins cx hK n (k + 1) r a' w' st' g' (by omega) h2 hk' hr)

/-! ### What is let go -/

theorem maskEnv_get (keep : List Nat) : ∀ (l : List AV) (i j : Nat) (x : AV), (maskEnv keep i l)[j]? = some x → ∃ y, l[j]? = some y ∧ (x = y ∨ x = .any)
  | [], i, j, x, h => by simp [maskEnv] at h
  | v :: r, i, j, x, h => by
    simp only [maskEnv] at h
    cases j with
    | zero =>
      simp at h
      refine ⟨v, by simp, ?_⟩
      cases hc : decide (i ∈ keep) <;> rw [hc] at h
      · exact .inr h.symm
      · exact .inl h.symm
    | succ j => simp at h; obtain ⟨y, h1, h2⟩ := maskEnv_get keep r (i + 1) j x h; exact ⟨y, by simpa using h1, h2⟩
theorem maskEnv_length (keep : List Nat) : ∀ (l : List AV) (i : Nat), (maskEnv keep i l).length = l.length
  | [], i => rfl
  | v :: r, i => by simp [maskEnv, maskEnv_length keep r]

theorem RepA.grow {w : World} {g : G} {v : Value} {y : AV} (h : RepA w g v y) : RepA w g v y.grow := by
  cases h with
  | nil sz => exact .own _ _ _ (.sl0 _ _ _)
  | any => exact .any _
  | pv _ _ h => exact .pv _ _ h
  | own v sz xs h => exact .own _ _ _ h
  | ptr o off b h => exact .ptr o off b h
  | rp b off c val h1 h2 h3 => exact .rp b off c val h1 h2 h3
  | fn f fs cs as bs hf hc ha hb => exact .fn f fs cs as bs hf hc ha hb
  | agg cs as hs hr => exact .agg cs as hs hr
  | tup cs as hs hr => exact .tup cs as hs hr
theorem OwnAt.grow {w : World} {g : G} {p : Nat × Nat} {v : Value} {y : AV} (h : RepA w g v y) (ho : OwnAt w g p v y) : OwnAt w g p v y.grow := by
  intro sz xs e
  cases h with
  | nil sz' => exact ⟨none, 0, 0, rfl, .inl rfl⟩
  | _ => exact ho sz xs e
theorem WF.grow {w : World} {g : G} {objs : List AObj} (h : WF w g objs) : WF w g (objs.map growO) := by
  refine ⟨fun o ho => h.dom o (by simpa using ho), fun o ob hob => ?_, h.inj, h.fresh, h.comobj, h.ownlt, h.ownobj⟩
  rw [List.getElem?_map] at hob
  obtain ⟨ob', h1, rfl⟩ := Option.map_eq_some_iff.1 hob
  obtain ⟨b, hb, hr⟩ := h.rep o ob' h1
  refine ⟨b, hb, ?_⟩
  cases ob' with
  | iter s p => exact hr
  | cells c =>
    obtain ⟨cs, e, h2, h3, h4⟩ := hr
    refine ⟨cs, e, h2, by simpa using h3, fun j v y hv hy => ?_⟩
    rw [List.getElem?_map] at hy
    obtain ⟨z, hz, rfl⟩ := Option.map_eq_some_iff.1 hy
    obtain ⟨h5, h6⟩ := h4 j v z hv hz
    exact ⟨h5.grow, OwnAt.grow h5 h6⟩
theorem RS.grow (hs : RS ro w0 g0 a w st g) : RS ro w0 g0 a w ⟨st.env.map AV.grow, st.objs.map growO⟩ g := by
  refine ⟨hs.defers, ⟨by simpa using hs.env.1, fun t v y hv hy => ?_⟩, hs.wf.grow, hs.fr⟩
  rw [List.getElem?_map] at hy
  obtain ⟨z, hz, rfl⟩ := Option.map_eq_some_iff.1 hy
  obtain ⟨h5, h6⟩ := hs.env.2 t v z hv hz
  exact ⟨h5.grow, OwnAt.grow h5 h6⟩

theorem snd_mask {keep : List Nat} {m : Nat} {K : St → Option β} (he : maskSt keep m st K = some x) (hs : RS ro w0 g0 a w st g) (hm : ∀ o b, g0.obj o = some b → o < m) :
    ∃ st' g', K st' = some x ∧ st'.objs = (st.objs.take m).map growO ∧ RS ro w0 g0 a w st' g' := by
  unfold maskSt at he
  obtain ⟨hc, he⟩ := cond_some_none he
  simp only [Bool.and_eq_true] at hc
  refine ⟨_, g.cut m, he, rfl, RS.grow (st := ⟨maskEnv keep 0 st.env, st.objs.take m⟩) ?_⟩
  refine ⟨hs.defers, ⟨by rw [maskEnv_length]; exact hs.env.1, fun t v y hv hy => ?_⟩, hs.wf.cut hc.2, ?_⟩
  · obtain ⟨z, hz, h⟩ := maskEnv_get keep st.env 0 t y hy
    have := hs.env.2 t v z hv hz
    rcases h with rfl | rfl
    · exact ⟨cut_rep this.1 (belowL_get hc.1 hy), this.2⟩
    · exact ⟨.any _, fun _ _ h => by cases h⟩
  · exact ⟨hs.fr.os, hs.fr.tape, hs.fr.output, hs.fr.size, hs.fr.blk, hs.fr.keeps, hs.fr.com, fun o b h => by
        show (if o < m then g.obj o else none) = some b
        rw [if_pos (hm o b h)]; exact hs.fr.obj o b h,
      (fun o b h => by
        have h : (if o < m then g.obj o else none) = some b := h
        split at h
        · exact hs.fr.objn o b h
        · cases h), hs.fr.own⟩

theorem RS.objs_lt (hs : RS ro w0 g0 a w st g) : ∀ o b, g0.obj o = some b → o < st.objs.length := by
  intro o b h
  have h1 := hs.fr.obj o b h
  rcases Nat.lt_or_ge o st.objs.length with h2 | h2
  · exact h2
  · rw [hs.wf.dom o h2] at h1; cases h1
end
end Go.Cx
