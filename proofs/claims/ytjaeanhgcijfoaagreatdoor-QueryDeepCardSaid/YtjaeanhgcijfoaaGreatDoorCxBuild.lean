/- Literals of structs and slices. -/
import Derived.Test.YtjaeanhgcijfoaaGreatDoorCxApp2
set_option linter.unusedSimpArgs false
set_option linter.unusedVariables false
namespace Go.Cx
open Go.RowKit

theorem foldlM_run {α β : Type} {P : Program} {w : World} (f : α → Sem β) (h : α → β) : ∀ (l : List α) (bs : Array β), (∀ x ∈ l, (f x).run P w = .ok (h x) w) →
    (l.foldlM (fun bs a => bs.push <$> f a) bs).run P w = .ok (bs ++ (l.map h).toArray) w
  | [], bs, _ => by simp
  | x :: l, bs, hall => by
    have h1 := hall x (by simp)
    simp only [List.foldlM_cons, Sem.run_bind, Sem.run_map, h1, Result.andThen_ok]
    rw [foldlM_run f h l _ (fun y hy => hall y (by simp [hy]))]
    congr 1
    apply Array.ext'
    simp

theorem mapM_run {α β : Type} {P : Program} {w : World} (f : α → Sem β) (h : α → β) (fs : Array α) (hall : ∀ x ∈ fs.toList, (f x).run P w = .ok (h x) w) : (fs.mapM f).run P w = .ok (fs.map h) w := by
  rw [Array.mapM_eq_foldlM, ← Array.foldlM_toList, foldlM_run f h _ _ hall]
  congr 1
  apply Array.ext'
  simp

theorem foldset {off : Nat} : ∀ (vs : List Value) (k : Nat) (cells : Array Value), off + k + vs.length ≤ cells.size →
    ((vs.zipIdx k).foldl (fun cs p => cs.setIfInBounds (off + p.2) p.1) cells) = (cells.toList.take (off + k) ++ vs ++ cells.toList.drop (off + k + vs.length)).toArray
  | [], k, cells, h => by simp
  | v :: vs, k, cells, h => by
    simp only [List.zipIdx_cons, List.foldl_cons]
    rw [foldset vs (k + 1) _ (by simp at h ⊢; omega)]
    have hlt : off + k < cells.toList.length := by simp at h ⊢; omega
    apply Array.ext'
    simp only [Array.toList_setIfInBounds]
    have e1 : (cells.toList.set (off + k) v).take (off + (k + 1)) = cells.toList.take (off + k) ++ [v] := by
      rw [show off + (k + 1) = off + k + 1 from by omega, List.take_succ_eq_append_getElem (by simpa using hlt), List.take_set_of_le (by omega)]
      simp
    have e2 : (cells.toList.set (off + k) v).drop (off + (k + 1) + vs.length) = cells.toList.drop (off + k + (v :: vs).length) := by
      rw [List.drop_set_of_lt (by omega)]
      congr 1
      simp; omega
    rw [e1, e2]
    simp

theorem fill_step {place : Nat → Option (Nat × Nat)} {i off size : Nat} {v : Value} {rest : List (Nat × Value)} {cells : Array Value} (hp : place i = some (off, size)) (hs : v.cells.size = size) (hf : off + size ≤ cells.size) :
    Instr.fill place cells ((i, v) :: rest) = Instr.fill place (cells.toList.take off ++ v.cells.toList ++ cells.toList.drop (off + size)).toArray rest := by
  simp only [Instr.fill, hp]
  have hc : ¬ ((decide (v.cells.size ≠ size) || decide (off + v.cells.size > cells.size)) = true) := by simp; omega
  rw [if_neg hc]
  congr 1
  rw [← Array.foldl_toList, Array.toList_zipIdx]
  have := foldset (off := off) v.cells.toList 0 cells (by simp; omega)
  simp only [Nat.add_zero, Array.length_toList, hs] at this
  exact this

section
variable {β : Type} {P : Program} {ro : Nat} {w0 w w' : World} {g0 g g' : G} {o : Oper} {a : Act} {st : St} {K : St → AV → Option β} {x : β} {C : Caller} {objs : List AObj}

/-- A part's cells. -/
theorem partsAV_cons {off n : Nat} {z : AO} {r : List (Nat × Nat × AO)} {L : List (Nat × Nat × List AV) → Option β} (h : partsAV st.get ((off, n, z) :: r) L = some x) :
    ∃ c, partsAV st.get r (fun l => L ((off, n, c) :: l)) = some x ∧ c.length = n ∧ ∀ v, RepA w g v (st.get z).view → v.cells.size = n ∧ ∀ (j : Nat) (u : Value) (q : AV), v.cells[j]? = some u → c[j]? = some q → RepA w g u q := by
  simp only [partsAV] at h
  split at h
  · rename_i c hc
    obtain ⟨h1, h2⟩ := cond_some_none h
    have h1 := Nat.eq_of_beq_eq_true h1
    refine ⟨c, h2, h1, fun v hv => ?_⟩
    rw [hc] at hv
    cases hv with | agg cs _ hsz hr => exact ⟨hsz.trans h1, hr⟩
  · rename_i c hc
    obtain ⟨h1, h2⟩ := cond_some_none h
    have h1 := Nat.eq_of_beq_eq_true h1
    refine ⟨_, h2, by simpa using h1, fun v hv => ?_⟩
    rw [hc] at hv
    have hv := hv.pv_inv
    cases hv with
    | agg cs _ hsz hr =>
      refine ⟨hsz.trans h1, fun j u q hu hq => ?_⟩
      rw [List.getElem?_map] at hq
      obtain ⟨p, hp, rfl⟩ := Option.map_eq_some_iff.1 hq
      exact .pv _ _ (hr j u p hu hp)
  · cases h
  · cases h
  · cases h
  · cases h
  · rename_i v' n1 n2 n3 n4 n5 n6
    obtain ⟨h1, h2⟩ := cond_some_none h
    have h1 := Nat.eq_of_beq_eq_true h1
    refine ⟨_, h2, by simpa using h1.symm, fun v hv => ?_⟩
    have hcl : v.cells = #[v] := by
      generalize hz : (st.get z).view = y at hv n1 n2 n3 n4 n5 n6
      cases hv with
      | pv _ _ hp => cases hp <;> first | rfl | exact absurd rfl (n2 _) | exact absurd rfl (n5 _)
      | own _ _ _ hp => cases hp <;> rfl
      | nil => rfl
      | any => exact absurd rfl n4
      | ptr => rfl
      | rp => rfl
      | fn => rfl
      | agg => exact absurd rfl (n1 _)
      | tup => exact absurd rfl (n3 _)
    rw [hcl]
    refine ⟨by simpa using h1.symm, fun j u q hu hq => ?_⟩
    cases j with
    | zero => simp at hu hq; subst hu; subst hq; exact hv
    | succ j => simp at hq

theorem build_fill {fs : Array Field} {tot : Nat} : ∀ {ps : List (Nat × Operand)} {ps' : List (Nat × Nat × AO)} {L : List (Nat × Nat × List AV) → Option β} {cells : Array Value} {cur : List AV},
    trParts P tot fs ps = some ps' → partsAV st.get ps' L = some x → RepE w g a.tmps st.env → cells.size = tot → cells.size = cur.length →
    (∀ (j : Nat) (u : Value) (q : AV), cells[j]? = some u → cur[j]? = some q → RepA w g u q) →
    ∃ l res, L l = some x ∧ Instr.fill ((fs.map fun f => (f.offset, P.cellsOf f.type))[·]?) cells (ps.map fun p => (p.1, a.eval p.2)) = some res ∧ res.size = (fillAV l cur).length ∧
      ∀ (j : Nat) (u : Value) (q : AV), res[j]? = some u → (fillAV l cur)[j]? = some q → RepA w g u q
  | [], ps', L, cells, cur, ht, hp, he, h1, h2, h3 => by
    simp [trParts] at ht; subst ht
    exact ⟨[], cells, hp, rfl, h2, h3⟩
  | (i, y) :: r, ps', L, cells, cur, ht, hp, he, h1, h2, h3 => by
    simp only [trParts] at ht
    split at ht
    · rename_i f hf
      split at ht
      · rename_i ay l hy hr
        split at ht
        · rename_i hle
          simp at ht; subst ht
          obtain ⟨c, hp, hc, hrep⟩ := partsAV_cons (w := w) (g := g) hp
          obtain ⟨k1, k2⟩ := hrep _ (trO_rep hy he).view
          have hcl : (a.eval y).cells.toList.length = P.cellsOf f.type := by simpa using k1
          have hfit : f.offset + (a.eval y).cells.toList.length ≤ cells.toList.length := by rw [hcl]; simp; omega
          have hfit2 : f.offset + c.length ≤ cur.length := by rw [hc]; omega
          obtain ⟨l', res, m1, m2, m3, m4⟩ := build_fill (cells := (cells.toList.take f.offset ++ (a.eval y).cells.toList ++ cells.toList.drop (f.offset + P.cellsOf f.type)).toArray) (cur := cur.take f.offset ++ c ++ cur.drop (f.offset + P.cellsOf f.type)) hr hp he
            (by simp only [List.size_toArray]; rw [← hcl, splice_len hfit]; simpa using h1)
            (by simp only [List.size_toArray]; rw [← hcl, splice_len hfit, hcl, ← hc, splice_len hfit2]; simpa using h2)
            (fun j u q hu hq => by
              rw [← hcl] at hu
              rw [← hc] at hq
              rcases splice_get hfit (by simpa using hu) with ⟨b1, b2, b3⟩ | ⟨b1, b3⟩
              · rcases splice_get hfit2 hq with ⟨d1, d2, d3⟩ | ⟨d1, d3⟩
                · exact k2 _ u q (by simpa using b3) d3
                · omega
              · rcases splice_get hfit2 hq with ⟨d1, d2, d3⟩ | ⟨d1, d3⟩
                · omega
                · exact h3 j u q (by simpa using b3) d3)
          refine ⟨_, res, m1, ?_, m3, m4⟩
          rw [List.map_cons, fill_step (off := f.offset) (size := P.cellsOf f.type) (by simp [hf]) k1 (by omega)]
          exact m2
        · cases ht
      · cases ht
    · cases ht

theorem pvCell_nilA {t : CT} {v : Value} {p : PV} (h : pvCell t v = some p) : RepA w g v (nilAV p) := by
  unfold pvCell at h
  split at h <;> simp at h <;> subst h
  · exact .nil _
  · exact .pv _ _ (.bool _)
  · exact .pv _ _ (.int _ _)
  · exact .pv _ _ (.str _)
  · exact .pv _ _ .nilp
  · exact .pv _ _ .nilIface
  · exact .pv _ _ .nilFn
theorem pvCells_nilA : ∀ {ts : List CT} {vs : List Value} {ps : List PV}, pvCells ts vs = some ps → ∀ (j : Nat) (v : Value) (p : PV), vs[j]? = some v → ps[j]? = some p → RepA w g v (nilAV p)
  | [], [], ps, h => by simp [pvCells] at h; subst h; simp
  | t :: ts, v :: vs, ps, h => by
    simp only [pvCells] at h
    split at h
    · rename_i p r hp hr
      simp at h; subst h
      intro j v' p' hv hp'
      cases j with
      | zero => simp at hv hp'; subst hv; subst hp'; exact pvCell_nilA hp
      | succ j => simp at hv hp'; exact pvCells_nilA hr j v' p' hv hp'
    · simp at h
  | [], _ :: _, ps, h => by simp [pvCells] at h
  | _ :: _, [], ps, h => by simp [pvCells] at h
theorem mkAggB_rep {cs : Array Value} {l : List AV} (hs : cs.size = l.length) (hr : ∀ (j : Nat) (v : Value) (y : AV), cs[j]? = some v → l[j]? = some y → RepA w g v y) : RepA w g (.agg cs) (mkAggB l) := by
  unfold mkAggB
  cases l.any AV.isNil with
  | false => exact mkAgg_rep hs hr
  | true =>
    refine .agg _ _ (by simpa using hs) fun j v y hv hy => ?_
    rw [List.getElem?_map] at hy
    obtain ⟨z, hz, rfl⟩ := Option.map_eq_some_iff.1 hy
    exact (hr j v z hv hz).soft
theorem mkAggB_ne (l : List AV) (sz xs) : mkAggB l ≠ .own sz xs := by
  unfold mkAggB
  cases l.any AV.isNil with
  | false => exact mkAgg_ne l sz xs
  | true => simp [cond]

theorem snd_build {t : TypeId} {fs : Array Field} {ps : Array (Nat × Operand)} {ps' : List (Nat × Nat × AO)} {zs : List PV} (hop : o.op = .build t ps) (h1 : P.underlying t = some (.struct fs)) (hzs : zeroPV P t = some zs)
    (hfs : fs.toList.all (fun f => (P.info? f.type).isSome) = true) (hp : trParts P zs.length fs ps.toList = some ps')
    (he : evOp C ro (.build zs ps') st K = some x) (hs : RS ro w0 g0 a w st g) : Sound1 P ro w0 g0 o a w K x := by
  obtain ⟨i, z, l, hi, hz0, hl, hpv, hllen⟩ := zeroPV_inv hzs
  obtain ⟨q1, q2, q3⟩ := pvCells_rep (w := w) (com := g.com) hpv
  simp only [evOp] at he
  obtain ⟨l', res, m1, m2, m3, m4⟩ := build_fill (w := w) (g := g) (a := a) (cells := z.cells) (cur := zs.map nilAV) hp he hs.env (by simpa using q1) (by simpa using q1) (fun j u q hu hq => by
    rw [List.getElem?_map] at hq
    obtain ⟨p, hp, rfl⟩ := Option.map_eq_some_iff.1 hq
    exact pvCells_nilA hpv j u p (by simpa using hu) hp)
  have hplaces : (fs.mapM fun f => (do pure (f.offset, ← sizeOf f.type) : Sem (Nat × Nat))).run P w = .ok (fs.map fun f => (f.offset, P.cellsOf f.type)) w := by
    refine mapM_run _ _ fs (fun f hf => ?_)
    have := List.all_eq_true.1 hfs f hf
    obtain ⟨inf, hinf⟩ := Option.isSome_iff_exists.1 this
    simp only [Sem.run_bind, sizeOf_run hinf, Result.andThen_ok, Sem.run_pure]
  have hparts : (ps.map fun (i, x) => (i, a.eval x)).toList = ps.toList.map fun p => (p.1, a.eval p.2) := by simp
  have hrun : (execOp a.eval o).run P w = .ok (.value (.agg res)) w := by
    simp only [execOp, hop, Instr.build, zeroValue, typeInfo, Sem.run_bind, run_program, Result.andThen_ok, hi, Sem.run_pure, hz0, run_underlying h1, hplaces, hparts, m2]
  exact Val.sound (Val.of m1 hrun hs (mkAggB_rep m3 m4) (mkAggB_ne _))

theorem onesP_inv : ∀ {l : List PV} {L : List PV → Option β}, onesP l L = some x → L l = some x ∧ ∀ p, p ∈ l → ∀ w com v, RepP w com v p → v.oneCell' = true
  | [], L, h => ⟨h, fun y hy => by simp at hy⟩
  | p :: r, L, h => by
    simp only [onesP] at h
    obtain ⟨h1, h2⟩ := pOne_inv h
    obtain ⟨h3, h4⟩ := onesP_inv h1
    refine ⟨h3, fun q hq => ?_⟩
    rcases List.mem_cons.1 hq with rfl | hq
    · exact h2
    · exact h4 q hq

theorem elemCells_inv {sz : Nat} {y : AV} {L : List PV → Option β} (h : elemCells sz y L = some x) :
    ∃ c, L c = some x ∧ c.length = sz ∧ (∀ p, p ∈ c → ∀ w com v, RepP w com v p → v.oneCell' = true) ∧ ∀ w g v, RepA w g v y.view → v.cells.size = sz ∧ ∀ (j : Nat) (u : Value) (p : PV), v.cells[j]? = some u → c[j]? = some p → RepP w g.com u p := by
  unfold elemCells at h
  split at h
  · rename_i c hc
    obtain ⟨h1, h2⟩ := cond_some_none h
    obtain ⟨h3, h4⟩ := onesP_inv h2
    have h1 := Nat.eq_of_beq_eq_true h1
    refine ⟨c, h3, h1, h4, fun w g v hv => ?_⟩
    rw [hc] at hv
    have hv := hv.pv_inv
    cases hv with | agg cs _ hsz hr => exact ⟨hsz.trans h1, hr⟩
  · rename_i p hn hc
    obtain ⟨h1, h2⟩ := cond_some_none h
    obtain ⟨h3, h4⟩ := onesP_inv h2
    have h1 := Nat.eq_of_beq_eq_true h1
    refine ⟨[p], h3, by simpa using h1.symm, h4, fun w g v hv => ?_⟩
    rw [hc] at hv
    have hv := hv.pv_inv
    have hone := h4 p (by simp) w g.com v hv
    have hcl : v.cells = #[v] := by cases v <;> first | rfl | cases hone
    rw [hcl]
    refine ⟨by simpa using h1.symm, fun j u q hu hq => ?_⟩
    cases j with
    | zero => simp at hu hq; subst hu; subst hq; exact hv
    | succ j => simp at hq
  · cases h

/-- The cells of a row of elements. -/
def RowRep (w : World) (com : Nat → Nat) (sz : Nat) (cells : Array Value) (xs : List (List PV)) : Prop :=
  cells.size = xs.length * sz ∧ (∀ (i : Nat) (x : List PV), xs[i]? = some x → x.length = sz) ∧ (∀ v ∈ cells.toList, v.oneCell' = true) ∧
    ∀ (i j : Nat) (x : List PV) (p : PV), xs[i]? = some x → x[j]? = some p → ∃ v, cells[i * sz + j]? = some v ∧ RepP w com v p

theorem RowRep.set {com : Nat → Nat} {sz i : Nat} {cells : Array Value} {xs : List (List PV)} {c : List PV} {vs : List Value} (h : RowRep w com sz cells xs) (hi : i < xs.length) (hc : c.length = sz) (hv : vs.length = sz)
    (hone : ∀ v ∈ vs, v.oneCell' = true) (hr : ∀ (j : Nat) (u : Value) (p : PV), vs[j]? = some u → c[j]? = some p → RepP w com u p) :
    RowRep w com sz (cells.toList.take (i * sz) ++ vs ++ cells.toList.drop (i * sz + sz)).toArray (xs.set i c) := by
  obtain ⟨h1, h2, h3, h4⟩ := h
  have hle : i * sz + sz ≤ xs.length * sz := by
    have : (i + 1) * sz ≤ xs.length * sz := Nat.mul_le_mul_right _ hi
    rw [Nat.add_mul, Nat.one_mul] at this; exact this
  have hfit : i * sz + vs.length ≤ cells.toList.length := by rw [hv]; simp; omega
  refine ⟨?_, fun k x hx => ?_, fun v hvm => ?_, fun k j x p hx hp => ?_⟩
  · simp only [List.size_toArray, List.length_set]
    have := splice_len hfit
    rw [hv] at this
    rw [this]; simpa using h1
  · rw [List.getElem?_set] at hx
    split at hx
    · cases hx; exact hc
    · exact h2 k x hx
  · simp only [List.mem_append] at hvm
    rcases hvm with (hvm | hvm) | hvm
    · exact h3 v (List.mem_of_mem_take hvm)
    · exact hone v hvm
    · exact h3 v (List.mem_of_mem_drop hvm)
  · have hj : j < sz := by
      have hl : x.length = sz := by
        rw [List.getElem?_set] at hx
        split at hx
        · cases hx; exact hc
        · exact h2 k x hx
      have := (List.getElem?_eq_some_iff.1 hp).1; omega
    have hto : (cells.toList.take (i * sz)).length = i * sz := by rw [List.length_take]; omega
    rw [List.getElem?_set] at hx
    split at hx
    · rename_i hik
      subst hik
      · cases hx
        have hlt : j < vs.length := by omega
        refine ⟨vs[j], ?_, hr j _ p (by simp [hlt]) hp⟩
        simp only [List.getElem?_toArray, List.append_assoc]
        rw [List.getElem?_append_right (by omega), hto, List.getElem?_append_left (by omega), Nat.add_sub_cancel_left]
        simp [hlt]
    · rename_i hik
      obtain ⟨v, hv', hr'⟩ := h4 k j x p hx hp
      refine ⟨v, ?_, hr'⟩
      simp only [List.getElem?_toArray, List.append_assoc]
      by_cases hlt : k < i
      · have : k * sz + j < i * sz := idx_lt hlt hj
        rw [List.getElem?_append_left (by omega), List.getElem?_take, if_pos this]
        simpa using hv'
      · have hgt : i + 1 ≤ k := by omega
        have : (i + 1) * sz ≤ k * sz := Nat.mul_le_mul_right _ hgt
        rw [Nat.add_mul, Nat.one_mul] at this
        rw [List.getElem?_append_right (by omega), hto, List.getElem?_append_right (by omega), List.getElem?_drop, hv]
        rw [show i * sz + sz + (k * sz + j - i * sz - sz) = k * sz + j from by omega]
        simpa using hv'

theorem bslice_fill {sz n : Nat} {e : TypeId} (hsz : P.cellsOf e = sz) : ∀ {ps : List (Nat × Operand)} {ps' : List (Nat × AO)} {L : List (List PV) → Option β} {cells : Array Value} {xs : List (List PV)},
    trSlParts P n e ps = some ps' → partsSl st.get sz ps' xs L = some x → RepE w g a.tmps st.env → xs.length = n → RowRep w g.com sz cells xs →
    ∃ ys res, L ys = some x ∧ Instr.fill (fun i => some (i * sz, sz)) cells (ps.map fun p => (p.1, a.eval p.2)) = some res ∧ ys.length = n ∧ RowRep w g.com sz res ys
  | [], ps', L, cells, xs, ht, hp, he, hn, hr => by
    simp [trSlParts] at ht; subst ht
    exact ⟨xs, cells, hp, rfl, hn, hr⟩
  | (i, y) :: r, ps', L, cells, xs, ht, hp, he, hn, hr => by
    simp only [trSlParts] at ht
    split at ht
    · rename_i ay l hy hl
      split at ht
      · rename_i hin
        simp at ht; subst ht
        simp only [partsSl] at hp
        obtain ⟨c, hp, hc, hone, hrep⟩ := elemCells_inv hp
        obtain ⟨k1, k2⟩ := hrep w g _ (trO_rep hy he).view
        have hle : i * sz + sz ≤ xs.length * sz := by
          have : (i + 1) * sz ≤ xs.length * sz := Nat.mul_le_mul_right _ (by omega)
          rw [Nat.add_mul, Nat.one_mul] at this; exact this
        have hset := hr.set (i := i) (c := c) (vs := (a.eval y).cells.toList) (by omega) hc (by simpa using k1) (fun v hv => by
          obtain ⟨j, hj, rfl⟩ := List.getElem_of_mem hv
          have hj' : j < c.length := by rw [hc, ← k1]; simpa using hj
          exact hone c[j] (List.getElem_mem _) w g.com _ (k2 j _ _ (by simp) (by simp [hj']))) (fun j u p hu hp => k2 j u p (by simpa using hu) hp)
        obtain ⟨ys, res, m1, m2, m3, m4⟩ := bslice_fill hsz hl hp he (by simpa using hn) hset
        refine ⟨ys, res, m1, ?_, m3, m4⟩
        rw [List.map_cons, fill_step (off := i * sz) (size := sz) rfl k1 (by rw [hr.1]; exact hle)]
        exact m2
      · cases ht
    · cases ht

theorem pvCell_one {t : CT} {v : Value} {p : PV} (h : pvCell t v = some p) : v.oneCell' = true := by
  unfold pvCell at h
  split at h <;> first | rfl | simp at h

theorem snd_bslice {t e : TypeId} {n : Nat} {ps : Array (Nat × Operand)} {ps' : List (Nat × AO)} {zs : List PV} (hop : o.op = .buildSlice t n ps) (h1 : P.underlying t = some (.slice e)) (hzs : zeroPV P e = some zs)
    (hn : n * P.cellsOf e ≤ 16777216) (hpos : 0 < P.cellsOf e) (hp : trSlParts P n e ps.toList = some ps')
    (he : evOp C ro (.bslice (P.cellsOf e) n zs ps') st K = some x) (hs : RS ro w0 g0 a w st g) : Sound1 P ro w0 g0 o a w K x := by
  obtain ⟨i, z, l, hi, hz0, hl, hpv, hllen⟩ := zeroPV_inv hzs
  obtain ⟨q1, q2, q3⟩ := pvCells_rep (w := w) (com := g.com) hpv
  have hzl : zs.length = P.cellsOf e := by rw [← q2, hllen]
  have hzc : z.cells.size = P.cellsOf e := by rw [← hzl, ← q1]; simp
  simp only [evOp] at he
  -- the zero cells
  have hzero : RowRep w g.com (P.cellsOf e) ((Array.range (n * P.cellsOf e)).map (z.cells[· % z.cells.size]!)) (List.replicate n zs) := by
    refine ⟨by simp, fun i x hx => ?_, fun v hv => ?_, fun i j x p hx hp => ?_⟩
    · rw [List.getElem?_replicate] at hx
      split at hx
      · cases hx; exact hzl
      · cases hx
    · simp at hv
      obtain ⟨k, hk, rfl⟩ := hv
      have hlt : k % z.cells.size < z.cells.size := Nat.mod_lt _ (by omega)
      have : k % z.cells.size < zs.length := by omega
      obtain ⟨ct, hct⟩ := pvCells_at hpv (k % z.cells.size) z.cells[k % z.cells.size] zs[k % z.cells.size] (by simp [hlt]) (by simp [this])
      have := pvCell_one hct
      rw [getElem!_pos z.cells (k % z.cells.size) hlt]
      exact this
    · rw [List.getElem?_replicate] at hx
      split at hx
      · rename_i hin
        cases hx
        have hj : j < P.cellsOf e := by have := (List.getElem?_eq_some_iff.1 hp).1; omega
        have hidx := idx_lt hin hj
        have hmod : (i * P.cellsOf e + j) % z.cells.size = j := by
          rw [hzc, Nat.add_comm, Nat.mul_comm, Nat.add_mul_mod_self_left, Nat.mod_eq_of_lt hj]
        have hjz : j < z.cells.size := by omega
        refine ⟨z.cells[j], ?_, q3 j _ p (by simp [hjz]) hp⟩
        simp only [Array.getElem?_map, Array.getElem?_range, hidx, if_true, Option.map_some, hmod]
        rw [getElem!_pos z.cells j hjz]
      · cases hx
  obtain ⟨ys, res, m1, m2, m3, m4⟩ := bslice_fill (w := w) (g := g) (a := a) (n := n) rfl hp he hs.env (by simp) hzero
  have hparts : (ps.map fun (i, x) => (i, a.eval x)).toList = ps.toList.map fun p => (p.1, a.eval p.2) := by simp
  have hrun : (execOp a.eval o).run P w = .ok (.value (.slice (some ⟨w.heap.size, 0, none⟩) n n)) (w.alloc (.cells res e)) := by
    have hc : ¬ (n * P.cellsOf e > 2 ^ 24) := by omega
    by_cases h0 : n * P.cellsOf e = 0
    · have hn0 : n = 0 := by
        rcases Nat.mul_eq_zero.1 h0 with h | h
        · exact h
        · omega
      subst hn0
      have m2' : Instr.fill (fun i => some (i * P.cellsOf e, P.cellsOf e)) #[] (ps.toList.map fun p => (p.1, a.eval p.2)) = some res := by simpa [Array.range_zero'] using m2
      simp [execOp, hop, Instr.buildSlice, run_underlying h1, sizeOf_run hi, Array.range_zero', m2', newRow]
    · simp only [execOp, hop, Instr.buildSlice, Sem.run_bind, run_underlying h1, Result.andThen_ok, sizeOf_run hi, if_neg hc, h0, if_false, zeroValue, typeInfo, run_program, hi, Sem.run_pure, hz0, hparts, m2]
      simp [newRow]
  have hk := hs.wf.keeps_alloc (.cells res e) (c' := (g.row w.heap.size (n * P.cellsOf e)).com) (fun b hb => if_neg hb)
  refine sound_ok hrun m1 (hs.row (.cells res e) (n * P.cellsOf e)) (.own _ _ _ ?_) (fun k _ sz xs h => ⟨_, _, _, rfl, .inl rfl⟩)
  obtain ⟨r1, r2, r3, r4⟩ := m4
  have hheap := heap_alloc_new w (.cells res e)
  refine .sl w.heap.size 0 n n _ _ (fun i j => res.getD (i * P.cellsOf e + j) undef) m3 (Nat.le_refl _) (by show _ ≤ (if w.heap.size = w.heap.size then _ else _); rw [if_pos rfl]; omega) r2 (fun i j hi hj => ?_) (fun i j hi hj => ?_) (fun i j x p hx hp => ?_)
  · have := idx_lt hi hj
    have hlt : i * P.cellsOf e + j < res.size := by rw [r1, m3]; exact this
    rw [cell_of_heap hheap, Nat.zero_add]
    simp [Array.getD, hlt]
  · have := idx_lt hi hj
    have hlt : i * P.cellsOf e + j < res.size := by rw [r1, m3]; exact this
    have : res.getD (i * P.cellsOf e + j) undef = res[i * P.cellsOf e + j] := by simp [Array.getD, hlt]
    rw [this]
    exact r3 _ (by simp)
  · obtain ⟨v, hv, hr⟩ := r4 i j x p hx hp
    have : res.getD (i * P.cellsOf e + j) undef = v := by simp [Array.getD_eq_getD_getElem?, hv]
    rw [this]
    exact hr.mono hk
end
end Go.Cx
