/- Operations that make or write memory, one by one. -/
import Derived.Test.YtjaeanhgcijfoaaGreatDoorCxOps6
set_option linter.unusedSimpArgs false
set_option linter.unusedVariables false
namespace Go.Cx
open Go.RowKit

section
variable {β : Type} {P : Program} {cr : FuncId → Option CR} {ops : List Oper} {C : Caller} {ro : Nat} {w0 w : World} {g0 g : G} {o : Oper} {a : Act} {st : St} {ao : AOp} {K : St → AV → Option β} {x : β}

/-- An operation goes as it was evaluated. -/
def Sound1 (P : Program) (ro : Nat) (w0 : World) (g0 : G) (o : Oper) (a : Act) (w : World) (K : St → AV → Option β) (x : β) : Prop :=
  ∀ (N : Act → World → Prop) (Q : Exit → Act → World → Prop),
    (∀ st' y v w' g', K st' y = some x → RS ro w0 g0 a w' st' g' → RepA w' g' v y → (∀ k, o.dst = some k → OwnAt w' g' (0, k) v y) → N (a.put o.dst v) w') → o.wp P a w N Q

theorem Val.sound (h : Val P ro w0 g0 o a w K x) : Sound1 P ro w0 g0 o a w K x := by
  intro N Q hN
  obtain ⟨v, st', y, g', hk, hr, hs, hy, ho⟩ := h
  exact wp_value hr (hN st' y v w g' hk hs hy ho)

theorem sound_ok {v : Value} {w' : World} {y : AV} {st' : St} {g' : G} (hr : (execOp a.eval o).run P w = .ok (.value v) w') (hk : K st' y = some x) (hs : RS ro w0 g0 a w' st' g') (hy : RepA w' g' v y)
    (ho : ∀ k, o.dst = some k → OwnAt w' g' (0, k) v y) : Sound1 P ro w0 g0 o a w K x := fun N Q hN => wp_value hr (hN st' y v w' g' hk hs hy ho)

theorem notOwn {v : Value} {p : Nat × Nat} {y : AV} (h : ∀ sz xs, y ≠ .own sz xs) : OwnAt w g p v y := fun sz xs he => absurd he (h sz xs)

theorem pvCell_own {t : CT} {v : Value} {z : Nat} (h : pvCell t v = some (.sl z [])) : v = .slice none 0 0 := by
  unfold pvCell at h
  split at h <;> simp at h
  rfl

theorem ownAV_rep {t : CT} {v : Value} {p : PV} (h : pvCell t v = some p) (q : Nat × Nat) : RepA w g v (ownAV p) ∧ OwnAt w g q v (ownAV p) := by
  have hr := pvCell_rep (w := w) (com := g.com) h
  unfold ownAV
  split
  · have := pvCell_own h
    subst this
    exact ⟨.own _ _ _ hr, fun sz xs he => ⟨none, 0, 0, rfl, .inl rfl⟩⟩
  · exact ⟨.pv _ _ hr, notOwn (by simp)⟩

theorem pvCells_at : ∀ {ts : List CT} {vs : List Value} {ps : List PV}, pvCells ts vs = some ps → ∀ (j : Nat) (v : Value) (p : PV), vs[j]? = some v → ps[j]? = some p → ∃ t, pvCell t v = some p
  | [], [], ps, h => by simp [pvCells] at h; subst h; simp
  | t :: ts, v :: vs, ps, h => by
    simp only [pvCells] at h
    split at h
    · rename_i p r hp hr
      simp at h; subst h
      intro j v' p' hv hp'
      cases j with
      | zero => simp at hv hp'; subst hv; subst hp'; exact ⟨t, hp⟩
      | succ j => simp at hv hp'; exact pvCells_at hr j v' p' hv hp'
    · simp at h
  | [], _ :: _, ps, h => by simp [pvCells] at h
  | _ :: _, [], ps, h => by simp [pvCells] at h

/-- A type's zero cells. -/
theorem zeroPV_inv {t : TypeId} {zs : List PV} (h : zeroPV P t = some zs) : ∃ i z l, P.info? t = some i ∧ i.zero = some z ∧ lay P t = some l ∧ pvCells l z.cells.toList = some zs ∧ l.length = P.cellsOf t := by
  unfold zeroPV at h
  split at h
  · rename_i i l hi hl
    split at h
    · rename_i z hz
      refine ⟨i, z, l, hi, hz, hl, h, ?_⟩
      unfold lay at hl
      split at hl
      · split at hl
        · cases hl; assumption
        · cases hl
      · cases hl
    · cases h
  · cases h

theorem rs_alloc (hs : RS ro w0 g0 a w st g) (ob : Obj) (y : AObj) (hy : RepObj (w.alloc ob) (g.newObj st.objs.length w.heap.size) st.objs.length w.heap.size y) :
    RS ro w0 g0 a (w.alloc ob) ⟨st.env, st.objs ++ [y]⟩ (g.newObj st.objs.length w.heap.size) :=
  hs.step (fr_newObj hs.wf ob) (hs.wf.alloc_obj ob y hy) (fun t _ => hold_alloc hs.wf ob rfl (fun _ _ => rfl) _)

theorem newObj_rep {b : Nat} (w : World) (g : G) (o : Nat) : RepA w (g.newObj o b) (.pointer (some ⟨b, 0, none⟩)) (.ptr o 0) := .ptr _ _ _ (if_pos rfl)

theorem objExt_new (hs : RS ro w0 g0 a w st g) : ObjExt g (g.newObj st.objs.length w.heap.size) := (fr_newObj (ro := ro) hs.wf (.cells #[] 0)).obj

theorem snd_alloc {e : TypeId} {zs : List PV} (hop : o.op = .alloc e) (hz : zeroPV P e = some zs)
    (he : evOp C ro (.alloc (zs.map ownAV)) st K = some x) (hs : RS ro w0 g0 a w st g) : Sound1 P ro w0 g0 o a w K x := by
  obtain ⟨i, z, l, hi, hz0, hl, hpv, _⟩ := zeroPV_inv hz
  have hrun : (execOp a.eval o).run P w = .ok (.value (.pointer (some ⟨w.heap.size, 0, none⟩))) (w.alloc (.cells z.cells e)) := by
    simp [execOp, hop, Instr.alloc, zeroValue, typeInfo, hi, hz0, newVar, newRow]
  simp only [evOp] at he
  refine sound_ok hrun he (rs_alloc hs _ _ (RepObj.of_new (g := g) z.cells e _ (heap_alloc_new _ _) ?_ fun j v y hv hy => ?_)) (newObj_rep _ _ _) (fun k _ => notOwn (by simp))
  · have := (pvCells_rep (w := w) (com := g.com) hpv).1
    simpa using this
  · rw [List.getElem?_map] at hy
    obtain ⟨p, hp, rfl⟩ := Option.map_eq_some_iff.1 hy
    obtain ⟨t, ht⟩ := pvCells_at hpv j v p (by simpa using hv) hp
    exact ownAV_rep ht _

theorem soft_ne (y : AV) (sz xs) : y.soft ≠ .own sz xs := by cases y <;> simp [AV.soft]
theorem RepA.soft {w : World} {g : G} {v : Value} {x : AV} (h : RepA w g v x) : RepA w g v x.soft := by
  cases x with
  | own sz xs => exact h.view
  | _ => exact h

theorem cellsOf_inv {n : Option Nat} {y : AV} {L : List AV → Option β} (h : cellsOf n y L = some x) :
    ∃ c, L c = some x ∧ ((n = none ∧ c = [y] ∧ ∀ w g v, RepA w g v y → v.cells = #[v]) ∨ (∃ m, n = some m ∧ c.length = m ∧ (∀ z, z ∈ c → ∀ sz xs, z ≠ .own sz xs) ∧ ∀ w g v, RepA w g v y → v.cells.size = c.length ∧ ∀ (j : Nat) (u : Value) (z : AV), v.cells[j]? = some u → c[j]? = some z → RepA w g u z)) := by
  unfold cellsOf at h
  split at h
  · split at h
    all_goals first | (cases h; done) | skip
    rename_i v h1 h2 h3 h4 h5 h6
    refine ⟨_, h, .inl ⟨rfl, rfl, fun w g v hv => ?_⟩⟩
    cases hv with
    | pv _ _ hp => cases hp <;> first | rfl | exact absurd rfl (h4 _) | exact absurd rfl (h5 _)
    | own _ _ _ hp => cases hp <;> rfl
    | nil => rfl
    | any => exact absurd rfl h3
    | ptr => rfl
    | rp => rfl
    | fn => rfl
    | agg => exact absurd rfl (h1 _)
    | tup => exact absurd rfl (h2 _)
  · rename_i m
    split at h
    · rename_i c
      obtain ⟨hc, h⟩ := cond_some_none h
      refine ⟨_, h, .inr ⟨m, rfl, by simpa using Nat.eq_of_beq_eq_true hc, fun z hz sz xs => ?_, fun w g v hv => ?_⟩⟩
      · obtain ⟨y, _, rfl⟩ := List.mem_map.1 hz; exact soft_ne _ _ _
      cases hv with
      | agg cs _ hsz hr =>
        refine ⟨by rw [List.length_map]; exact hsz, fun j u z hu hz => ?_⟩
        rw [List.getElem?_map] at hz
        obtain ⟨p, hp, rfl⟩ := Option.map_eq_some_iff.1 hz
        exact (hr j u p hu hp).soft
    · rename_i c
      obtain ⟨hc, h⟩ := cond_some_none h
      refine ⟨_, h, .inr ⟨m, rfl, by simpa using Nat.eq_of_beq_eq_true hc, fun z hz sz xs => ?_, fun w g v hv => ?_⟩⟩
      · obtain ⟨y, _, rfl⟩ := List.mem_map.1 hz; simp
      have hv := hv.pv_inv
      cases hv with
      | agg cs _ hsz hr =>
        refine ⟨by rw [List.length_map]; exact hsz, fun j u z hu hz => ?_⟩
        rw [List.getElem?_map] at hz
        obtain ⟨p, hp, rfl⟩ := Option.map_eq_some_iff.1 hz
        exact .pv _ _ (hr j u p hu hp)
    · cases h

theorem snd_box {e : TypeId} {n : Option Nat} {y : Operand} {ay : AO} (hop : o.op = .box e y) (hy : trO P e y = some ay)
    (he : evOp C ro (.box n ay) st K = some x) (hs : RS ro w0 g0 a w st g) : Sound1 P ro w0 g0 o a w K x := by
  have ry := (trO_rep hy hs.env).view
  simp only [evOp] at he
  obtain ⟨c, he, hc⟩ := cellsOf_inv he
  have hrun : (execOp a.eval o).run P w = .ok (.value (.pointer (some ⟨w.heap.size, 0, none⟩))) (w.alloc (.cells (a.eval y).cells e)) := by
    simp [execOp, hop, Instr.box, newVar, newRow]
  have hmono : ∀ {v : Value} {z : AV}, RepA w g v z → RepA (w.alloc (.cells (a.eval y).cells e)) (g.newObj st.objs.length w.heap.size) v z :=
    fun h => h.mono (g' := g.newObj st.objs.length w.heap.size) (hs.wf.keeps_alloc _ (fun _ _ => rfl)) (objExt_new hs)
  refine sound_ok hrun he (rs_alloc hs _ _ ?_) (newObj_rep _ _ _) (fun k _ => notOwn (by simp))
  rcases hc with ⟨_, rfl, hc⟩ | ⟨m, _, hm, hc⟩
  · have hcells := hc _ _ _ ry
    refine RepObj.of_new (g := g) _ e _ (heap_alloc_new _ _) (by rw [hcells]; rfl) fun j v z hv hz => ?_
    rw [hcells] at hv
    cases j with
    | zero => simp at hv hz; subst hv; subst hz; exact ⟨hmono ry, notOwn (view_ne _)⟩
    | succ j => simp at hz
  · obtain ⟨hno, hc⟩ := hc
    obtain ⟨h1, h2⟩ := hc _ _ _ ry
    exact RepObj.of_new (g := g) _ e _ (heap_alloc_new _ _) h1 fun j v z hv hz => ⟨hmono (h2 j v z hv hz), notOwn (hno z (List.mem_of_getElem? hz))⟩

theorem snd_range {t : TypeId} {y : Operand} {ay : AO} (hop : o.op = .range t y) (h1 : P.underlying t = some .string) (hy : trO P t y = some ay)
    (he : evOp C ro (.range ay) st K = some x) (hs : RS ro w0 g0 a w st g) : Sound1 P ro w0 g0 o a w K x := by
  have ry := trO_rep hy hs.env
  simp only [evOp] at he
  split at he
  · rename_i s hp
    rw [hp] at ry
    have hrun : (execOp a.eval o).run P w = .ok (.value (.pointer (some ⟨w.heap.size, 0, none⟩))) (w.alloc (.stringIter s 0)) := by
      simp [execOp, hop, Instr.range, run_underlying h1, ry.str_inv]
    exact sound_ok hrun he (rs_alloc hs _ (.iter s 0) (heap_alloc_new _ _)) (newObj_rep _ _ _) (fun k _ => notOwn (by simp))
  · cases he
end
end Go.Cx
