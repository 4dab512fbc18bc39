/- Stores, iterators. -/
import Derived.Test.YtjaeanhgcijfoaaGreatDoorCxOps8
set_option linter.unusedSimpArgs false
set_option linter.unusedVariables false
namespace Go.Cx
open Go.RowKit

/-- One block is written. -/
structure OneBlock (w w' : World) (b : Nat) : Prop where
  os : w'.os = w.os
  tape : w'.tape = w.tape
  output : w'.output = w.output
  size : w'.heap.size = w.heap.size
  other : ∀ b', b' ≠ b → w'.heap[b']? = w.heap[b']?

theorem oneBlock_setRow (w : World) (b : Nat) (cs : Array Value) : OneBlock w (w.setRow b cs) b := by
  refine ⟨rfl, rfl, rfl, by simp [World.setRow], fun b' hb => ?_⟩
  simp only [World.setRow, Array.getElem?_modify]
  rw [if_neg (by omega)]

section
variable {β : Type} {P : Program} {cr : FuncId → Option CR} {ops : List Oper} {C : Caller} {ro : Nat} {w0 w w' : World} {g0 g : G} {o : Oper} {a : Act} {st : St} {ao : AOp} {K : St → AV → Option β} {x : β}

theorem RS.writeObj (h : RS ro w0 g0 a w st g) {i b : Nat} {old new : AObj} (hi : st.objs[i]? = some old) (hb : g.obj i = some b) (hro : ro ≤ i) (hw : OneBlock w w' b)
    (hnew : Keeps w g.com w' g.com → RepObj w' g i b new) : RS ro w0 g0 a w' { st with objs := st.objs.set i new } g := by
  have hlen : i < st.objs.length := (List.getElem?_eq_some_iff.1 hi).1
  have hk : Keeps w g.com w' g.com := by
    refine ⟨fun _ => Nat.le_refl _, fun b' o ho => ?_⟩
    have hne : b' ≠ b := by
      intro h1; subst h1
      rw [h.wf.comobj i b' hb] at ho; omega
    simp only [World.cell?, hw.other b' hne]
  have hold : ∀ p, Hold w g w' g p := by
    intro p b' hp
    have hne : b' ≠ b := by intro h1; subst h1; exact h.wf.ownobj i b' p hb hp
    exact ⟨hp, rfl, hw.other b' hne⟩
  refine h.step (objs := st.objs.set i new) ⟨hw.os, hw.tape, hw.output, by rw [hw.size]; exact Nat.le_refl _, fun b' hb' hn => ?_, hk, fun _ _ _ => rfl, fun _ _ h => h, fun _ _ h => .inl h, fun b' p hp => .inr (.inr ⟨p, hp⟩)⟩ ?_ (fun t _ => hold _)
  · exact hw.other b' (fun h1 => hn (.inl ⟨i, hro, by rw [h1]; exact hb⟩))
  · refine ⟨fun o ho => h.wf.dom o (by simpa using ho), fun o ob hob => ?_, h.wf.inj, fun b' hb' => h.wf.fresh b' (by rw [← hw.size]; exact hb'), h.wf.comobj, fun b' p hp => by rw [hw.size]; exact h.wf.ownlt b' p hp, h.wf.ownobj⟩
    by_cases hoi : o = i
    · subst hoi
      rw [List.getElem?_set_self hlen] at hob
      cases hob
      exact ⟨b, hb, hnew hk⟩
    · rw [List.getElem?_set_ne (by omega)] at hob
      obtain ⟨b', hb', hr⟩ := h.wf.rep o ob hob
      have hne : b' ≠ b := by intro h1; subst h1; exact hoi (h.wf.inj o i b' hb' hb)
      exact ⟨b', hb', hr.step hk (fun _ _ h => h) (hw.other b' hne) (fun j => hold _)⟩

theorem pOne_inv {p : PV} {L : PV → Option β} (h : pOne p L = some x) : L p = some x ∧ ∀ w com v, RepP w com v p → v.oneCell' = true := by
  unfold pOne at h
  split at h
  · cases h
  · cases h
  · cases h
  · rename_i q h1 h2 h3
    refine ⟨h, fun w com v hv => ?_⟩
    cases hv <;> first | rfl | exact absurd rfl (h2 _) | exact absurd rfl (h3 _)

theorem ones_inv : ∀ {l : List AV} {L : List AV → Option β}, ones l L = some x → L l = some x ∧ ∀ y, y ∈ l → ∀ w g v, RepA w g v y → v.oneCell' = true
  | [], L, h => ⟨h, fun y hy => by simp at hy⟩
  | y :: r, L, h => by
    have tail : ∀ {L' : List AV → Option β}, ones r L' = some x → (∀ w g v, RepA w g v y → v.oneCell' = true) → L' r = some x ∧ ∀ z, z ∈ y :: r → ∀ w g v, RepA w g v z → v.oneCell' = true := by
      intro L' h' hy
      obtain ⟨h1, h2⟩ := ones_inv h'
      refine ⟨h1, fun z hz => ?_⟩
      rcases List.mem_cons.1 hz with rfl | hz
      · exact hy
      · exact h2 z hz
    cases y with
    | pv p =>
      simp only [ones] at h
      obtain ⟨h1, h2⟩ := pOne_inv h
      exact tail h1 (fun w g v hv => h2 _ _ _ hv.pv_inv)
    | own sz xs =>
      simp only [ones] at h
      exact tail h (fun w g v hv => by cases hv with | own _ _ _ h => cases h <;> rfl)
    | nil sz =>
      simp only [ones] at h
      exact tail h (fun w g v hv => by cases hv; rfl)
    | ptr i off =>
      simp only [ones] at h
      exact tail h (fun w g v hv => by obtain ⟨b, _, rfl⟩ := hv.ptr_inv; rfl)
    | rp c =>
      simp only [ones] at h
      exact tail h (fun w g v hv => by obtain ⟨b, off, rfl, _⟩ := hv.rp_inv; rfl)
    | fn f fa fc =>
      simp only [ones] at h
      exact tail h (fun w g v hv => by obtain ⟨fs, cs, rfl, _⟩ := hv.fn_inv; rfl)
    | any => simp [ones] at h
    | agg c => simp [ones] at h
    | tup c => simp [ones] at h

/-- What a spliced list holds. -/
theorem splice_get {α : Type} {c vs : List α} {off j : Nat} {y : α} (hle : off + vs.length ≤ c.length) (h : (c.take off ++ vs ++ c.drop (off + vs.length))[j]? = some y) :
    (off ≤ j ∧ j < off + vs.length ∧ vs[j - off]? = some y) ∨ ((j < off ∨ off + vs.length ≤ j) ∧ c[j]? = some y) := by
  have hto : (c.take off).length = off := by simp; omega
  by_cases h1 : j < off
  · rw [List.append_assoc, List.getElem?_append_left (by omega), List.getElem?_take, if_pos h1] at h
    exact .inr ⟨.inl h1, h⟩
  · rw [List.append_assoc, List.getElem?_append_right (by omega), hto] at h
    by_cases h2 : j < off + vs.length
    · rw [List.getElem?_append_left (by omega)] at h
      exact .inl ⟨by omega, h2, h⟩
    · rw [List.getElem?_append_right (by omega), List.getElem?_drop] at h
      refine .inr ⟨.inr (by omega), ?_⟩
      rw [show off + vs.length + (j - off - vs.length) = j from by omega] at h
      exact h
theorem splice_len {α : Type} {c vs : List α} {off : Nat} (hle : off + vs.length ≤ c.length) : (c.take off ++ vs ++ c.drop (off + vs.length)).length = c.length := by
  simp; omega

theorem snd_store {t : TypeId} {y z : Operand} {ay az : AO} {n : Option Nat} (hop : o.op = .store t y z) (hi : ∃ i, P.info? t = some i)
    (hn : (n = some (P.cellsOf t)) ∨ (n = none ∧ P.cellsOf t = 1)) (hy : trO' P y = some ay) (hz : trO P t z = some az)
    (he : evOp C ro (.store n ay az) st K = some x) (hs : RS ro w0 g0 a w st g) :
    ∀ (N : Act → World → Prop) (Q : Exit → Act → World → Prop),
      (∀ st' w' g', K st' .any = some x → RS ro w0 g0 a w' st' g' → N (a.put o.dst undef) w') → o.wp P a w N Q := by
  have ry := trO_rep hy hs.env
  have rz := trO_rep hz hs.env
  simp only [evOp] at he
  split at he
  case h_2 => cases he
  rename_i i off hp
  rw [hp] at ry
  obtain ⟨b, hb, hv⟩ := ry.ptr_inv
  split at he
  case h_2 => cases he
  rename_i c hc
  obtain ⟨vs, he, hcells⟩ := cellsOf_inv he
  obtain ⟨he, hones⟩ := ones_inv he
  obtain ⟨hcnd, he⟩ := cond_some_none he
  simp only [Bool.and_eq_true] at hcnd
  have hle := Nat.le_of_ble_eq_true hcnd.1
  have hro := Nat.le_of_ble_eq_true hcnd.2
  obtain ⟨b', hb', cs, e, h1, h2, h3⟩ := hs.wf.rep i _ hc
  rw [hb] at hb'; cases hb'
  obtain ⟨inf, hinf⟩ := hi
  -- the cells that are stored
  have hvals : (a.eval z).cells.size = vs.length ∧ P.cellsOf t = vs.length ∧ (∀ (j : Nat) (u : Value) (q : AV), (a.eval z).cells[j]? = some u → vs[j]? = some q → RepA w g u q) ∧ (∀ u ∈ (a.eval z).cells.toList, u.oneCell' = true) := by
    have hone : ∀ (hsz : (a.eval z).cells.size = vs.length) (hr : ∀ (j : Nat) (u : Value) (q : AV), (a.eval z).cells[j]? = some u → vs[j]? = some q → RepA w g u q), ∀ u ∈ (a.eval z).cells.toList, u.oneCell' = true := by
      intro hsz hr u hu
      obtain ⟨j, hj, rfl⟩ := List.getElem_of_mem hu
      have hj' : j < vs.length := by simpa [hsz] using hj
      exact hones vs[j] (List.getElem_mem _) w g _ (hr j _ _ (by simp) (by simp [hj']))
    rcases hcells with ⟨hn0, rfl, hc1⟩ | ⟨m, hm, hlen, hno, hc2⟩
    · have e1 := hc1 _ _ _ rz
      have hr : ∀ (j : Nat) (u : Value) (q : AV), (a.eval z).cells[j]? = some u → [st.get az][j]? = some q → RepA w g u q := by
        intro j u q hu hq
        rw [e1] at hu
        cases j with
        | zero => simp at hu hq; subst hu; subst hq; exact rz
        | succ j => simp at hq
      refine ⟨by rw [e1]; rfl, ?_, hr, hone (by rw [e1]; rfl) hr⟩
      rcases hn with h | h
      · rw [hn0] at h; cases h
      · exact h.2
    · obtain ⟨e1, e2⟩ := hc2 _ _ _ rz
      refine ⟨e1, ?_, e2, hone e1 e2⟩
      rcases hn with h | h
      · rw [hm] at h; cases h; exact hlen.symm
      · rw [hm] at h; cases h.1
  obtain ⟨v1, v2, v3, v4⟩ := hvals
  have hstore := run_storeCells_at P b off e (a.eval z).cells.toList 0 cs w h1 (by simp [v1]; omega) v4
  simp only [Nat.add_zero] at hstore
  have hrun : (execOp a.eval o).run P w = .ok .skip (w.setRow b (cs.toList.take off ++ (a.eval z).cells.toList ++ cs.toList.drop (off + (a.eval z).cells.toList.length)).toArray) := by
    have hsz : ¬ ((a.eval z).cells.size ≠ P.cellsOf t) := by rw [v1, v2]; simp
    simp only [execOp, hop, hv, Instr.storeAt, Instr.sureAddr, storeVar, Sem.run_bind, Sem.run_pure, Result.andThen_ok, sizeOf_run hinf, if_neg hsz, hstore]
  -- ownership goes over
  have hown : ∃ g', g'.com = g.com ∧ g'.obj = g.obj ∧ RS ro w0 g0 a w (st.drop az) g' ∧ (∀ (j : Nat) (u : Value) (q : AV), (a.eval z).cells[j]? = some u → vs[j]? = some q → OwnAt w g' (i + 1, off + j) u q) := by
    rcases hcells with ⟨hn0, rfl, hc1⟩ | ⟨m, hm, hlen, hno, hc2⟩
    · have e1 := hc1 _ _ _ rz
      have hred : ∀ g', OwnAt w g' (i + 1, off) (a.eval z) (st.get az) → ∀ (j : Nat) (u : Value) (q : AV), (a.eval z).cells[j]? = some u → [st.get az][j]? = some q → OwnAt w g' (i + 1, off + j) u q := by
        intro g' hg j u q hu hq
        rw [e1] at hu
        cases j with
        | zero => simp at hu hq; subst hu; subst hq; exact hg
        | succ j => simp at hq
      cases z with
      | tmp k =>
        simp [trO] at hz; subst hz
        obtain ⟨g', hc', ho', hrs, hw⟩ := hs.transfer k (i + 1, off)
        exact ⟨g', hc', ho', hrs, hred g' (hw _ _ (hs.env.get k).2)⟩
      | const v =>
        obtain ⟨q, hq, rfl⟩ := Option.map_eq_some_iff.1 hz
        exact ⟨g, rfl, rfl, hs, hred g ((constAV_rep hq w g).2 _)⟩
      | global _ => simp [trO] at hz
      | func f =>
        simp [trO] at hz; subst hz
        exact ⟨g, rfl, rfl, hs, hred g (notOwn (by simp [St.get]))⟩
    · have hnone : ∀ g' (j : Nat) (u : Value) (q : AV), (a.eval z).cells[j]? = some u → vs[j]? = some q → OwnAt w g' (i + 1, off + j) u q :=
        fun g' j u q _ hq => notOwn (hno q (List.mem_of_getElem? hq))
      cases az with
      | t k =>
        obtain ⟨g', hc', ho', hrs, _⟩ := hs.transfer k (0, 0)
        exact ⟨g', hc', ho', hrs, hnone g'⟩
      | c v => exact ⟨g, rfl, rfl, hs, hnone g⟩
  obtain ⟨g', hc', ho', hrs, hog⟩ := hown
  intro N Q hN
  have hobjs : (st.drop az).objs = st.objs := by cases az <;> rfl
  rw [← hobjs] at he
  have hb' : g'.obj i = some b := by rw [ho']; exact hb
  have hi' : (st.drop az).objs[i]? = some (.cells c) := by rw [hobjs]; exact hc
  have hcs : off + (a.eval z).cells.toList.length ≤ cs.toList.length := by simp [v1]; omega
  refine wp_skipop hrun (hN _ _ g' he (hrs.writeObj hi' hb' hro (oneBlock_setRow w b _) (fun hk => ?_)))
  · refine ⟨_, e, setRow_heap w b cs _ e (0, 0) h1, by rw [splice_len hle]; simp only [List.size_toArray]; rw [splice_len hcs]; simpa using h2, fun j u q hu hq => ?_⟩
    have hu' : (cs.toList.take off ++ (a.eval z).cells.toList ++ cs.toList.drop (off + (a.eval z).cells.toList.length))[j]? = some u := by simpa using hu
    have e3 : (a.eval z).cells.toList.length = vs.length := by simpa using v1
    obtain ⟨b2, hb2, cs2, e2, k1, k2, k3⟩ := hrs.wf.rep i _ hi'
    rw [hb'] at hb2; cases hb2
    rw [h1] at k1; cases k1
    rcases splice_get hcs hu' with ⟨m1, m2, m3⟩ | ⟨m1, m3⟩
    · rcases splice_get hle hq with ⟨n1, n2, n3⟩ | ⟨n1, n3⟩
      · have r := v3 (j - off) u q (by simpa using m3) n3
        have ow := hog (j - off) u q (by simpa using m3) n3
        rw [show off + (j - off) = j from by omega] at ow
        refine ⟨(r.congr hc' ho').mono hk (fun _ _ h => h), ow.hold ?_⟩
        intro b' hp
        have hne : b' ≠ b := by intro h1; subst h1; exact hrs.wf.ownobj i b' _ hb' hp
        exact ⟨hp, rfl, (oneBlock_setRow w b _).other b' hne⟩
      · omega
    · rcases splice_get hle hq with ⟨n1, n2, n3⟩ | ⟨n1, n3⟩
      · omega
      · obtain ⟨r, ow⟩ := k3 j u q (by simpa using m3) n3
        refine ⟨r.mono hk (fun _ _ h => h), ow.hold ?_⟩
        intro b' hp
        have hne : b' ≠ b := by intro h1; subst h1; exact hrs.wf.ownobj i b' _ hb' hp
        exact ⟨hp, rfl, (oneBlock_setRow w b _).other b' hne⟩

theorem snd_next {y : Operand} {ay : AO} (hop : o.op = .next y true) (hy : trO' P y = some ay)
    (he : evOp C ro (.next ay) st K = some x) (hs : RS ro w0 g0 a w st g) : Sound1 P ro w0 g0 o a w K x := by
  have ry := trO_rep hy hs.env
  simp only [evOp] at he
  split at he
  case h_2 => cases he
  rename_i i hp
  rw [hp] at ry
  obtain ⟨b, hb, hv⟩ := ry.ptr_inv
  split at he
  case h_2 => cases he
  rename_i s pos hc
  obtain ⟨b', hb', hh⟩ := hs.wf.rep i _ hc
  rw [hb] at hb'; cases hb'
  have hh : w.heap[b]? = some (.stringIter s pos) := hh
  have hget : (getObj b).run P w = .ok (.stringIter s pos) w := by simp [getObj, Sem.run, hh]
  rcases cond_some he with ⟨hlt, he⟩ | ⟨hlt, he⟩
  · obtain ⟨hro, he⟩ := cond_some_none he
    have hro := Nat.le_of_ble_eq_true hro
    have hlt : pos < s.size := by have := Nat.le_of_ble_eq_true hlt; omega
    have hset : (setObj b (.stringIter s (pos + (Utf8.decode s pos).2))).run P w = .ok () { w with heap := w.heap.setIfInBounds b (.stringIter s (pos + (Utf8.decode s pos).2)) } := by
      simp [setObj, Sem.run, hh]
    have hrun : (execOp a.eval o).run P w = .ok (.value (.tuple #[.bool true, .int .i64 pos, .int .i32 (Utf8.decode s pos).1])) { w with heap := w.heap.setIfInBounds b (.stringIter s (pos + (Utf8.decode s pos).2)) } := by
      simp only [execOp, hop, hv, Instr.next, Sem.run_bind, hget, Result.andThen_ok, hlt, if_true, hset, Sem.run_pure]
      rfl
    have hone : OneBlock w { w with heap := w.heap.setIfInBounds b (.stringIter s (pos + (Utf8.decode s pos).2)) } b :=
      ⟨rfl, rfl, rfl, by simp, fun b' hne => by simp [Ne.symm hne]⟩
    have hblt : b < w.heap.size := lt_of_heap hh
    refine sound_ok hrun he (hs.writeObj hc hb hro hone (fun _ => ?_)) (.pv _ _ (.tup _ _ rfl fun j v p hv hp => ?_)) (fun k _ => notOwn (by simp))
    · show (w.heap.setIfInBounds b (.stringIter s (pos + (Utf8.decode s pos).2)))[b]? = _
      simp [hblt]
    · match j with
      | 0 => simp at hv hp; subst hv; subst hp; exact .bool _
      | 1 => simp at hv hp; subst hv; subst hp; exact .int _ _
      | 2 => simp at hv hp; subst hv; subst hp; exact .int _ _
      | j + 3 => simp at hv
  · have hlt : ¬ pos < s.size := by
      intro h
      have : Nat.blt pos s.size = true := Nat.ble_eq_true_of_le h
      rw [this] at hlt; cases hlt
    have hrun : (execOp a.eval o).run P w = .ok (.value (.tuple #[.bool false])) w := by
      simp only [execOp, hop, hv, Instr.next, Sem.run_bind, hget, Result.andThen_ok, hlt, if_false, Sem.run_pure]
    refine Val.sound (Val.of he hrun hs (.pv _ _ (.tup _ _ rfl fun j v p hv hp => ?_)) (by simp))
    match j with
    | 0 => simp at hv hp; subst hv; subst hp; exact .bool _
    | j + 1 => simp at hv
end
end Go.Cx
